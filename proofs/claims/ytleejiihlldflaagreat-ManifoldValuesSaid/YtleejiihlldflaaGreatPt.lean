/-
  The sine of the first quarter, looked at in every place by the kernel.
-/
import Derived.Test.YtleejiihlldflaaGreatNa
namespace Go.RX
open Go

theorem q0 : qN 0 = (0, 0) := by kernel_rfl

/-- What holds of the sine at r and r + 1 (and the cosine at r). -/
def circ (s c : Nat × Nat) : Bool := Nat.ble (s.1 * s.1 / 65536 + c.1 * c.1 / 65536) 65536 && Nat.ble 65536 (upN (s.2 * s.2) 65536 + upN (c.2 * c.2) 65536)
def okN (r : Nat) : Bool := (fun s t c : Nat × Nat => Nat.ble s.1 s.2 && Nat.ble s.2 65536 && Nat.ble s.2 (s.1 + 2) && Nat.ble s.1 t.1 && Nat.ble s.2 t.2 && circ s c) (qN r) (qN (r + 1)) (qN (16384 - r))
theorem ok_all : upto okN 16384 = true := by kernel_rfl
theorem q1 : qN 16384 = (65536, 65536) := by kernel_rfl

def chordN (r : Nat) : Bool := (fun s : Nat × Nat => Nat.ble (4 * r) s.2 && Nat.ble (4 * r) (s.1 + 2) && Nat.ble s.1 (r * 411775 / 65536 + 1)) (qN r)
theorem chord_all : upto chordN 16385 = true := by kernel_rfl

end Go.RX
