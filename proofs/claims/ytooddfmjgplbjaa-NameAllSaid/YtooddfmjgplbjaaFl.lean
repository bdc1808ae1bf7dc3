/- Words for float64 values: a kind by their bits; what a store and the two conversions of math do in a walk. -/
import Derived.Test.YtooddfmjgplbjaaProg
import Derived.Test.YtooddfmjgplbjaaWWords
import Derived.Test.YtooddfmjgplbjaaWFoot
import Derived.Test.YtooddfmjgplbjaaWMore
import Derived.Laws.Entries
import Derived.Laws.Cover2
import Derived.KernelRfl
namespace Go.Proofs.YtooddfmjgplbjaaW.PrintWords
open Go.RowKit
namespace Kd
def fl : Kd Nat := scalar (Value.float .f64) (fun _ => rfl)
theorem at_fl {w : World} {A : Option Addr} {n : Nat} {xs : List Nat} (h : Kd.fl.C w A n xs) (i : Int) (h0 : 0 ≤ i) (h1 : i < n) : ∃ ad, A = some ad ∧ w.cell? (ad.add i.toNat) = some (.float .f64 (rdOf (0 : Nat) xs i)) :=
  ReadsOf.at_ (reads_of_C (enc := Value.float .f64) (d := (0 : Nat)) (h1 := fun _ => rfl) h) i h0 h1
theorem heap_fl : Heap Kd.fl := ⟨fun _ h => h⟩
theorem foot_fl {w : World} {ad : Addr} {n : Nat} {l : List Nat} (h : Kd.fl.C w (some ad) n l) (i : Int) (h0 : 0 ≤ i) (h1 : i < n) : w.cell? (ad.add i.toNat) = some (.float .f64 (rdOf (0 : Nat) l i)) := by
  obtain ⟨ad', he, hc⟩ := at_fl h i h0 h1
  injection he with he
  subst he
  exact hc
end Kd
theorem fl_store (P : Program) (w : World) (a : Addr) (m : Mode) (k : FloatKind) (b : Nat) : (store a (.float k b) m).run P w = stored P w a (.float k b) m := run_store P w a _ m rfl
theorem fl_bits : True := trivial
theorem fl_frombits : True := trivial
end Go.Proofs.YtooddfmjgplbjaaW.PrintWords
