/-
  Approximate rotations, looked at by the kernel.
-/
import Derived.Test.YtkekddbdbfdjeaaPt
namespace Go.RX
open Go

def K : Nat := 1152921504606846976
def c0 : Nat := 1152921499308143464
def s0 : Nat := 110534964706100

def zN : Nat → Nat × Nat
  | 0 => (K, 0)
  | n + 1 => (((zN n).1 * c0 - (zN n).2 * s0) / K, ((zN n).2 * c0 + (zN n).1 * s0) / K)

def near (q : Nat × Nat) (v : Nat) : Bool := Nat.ble (q.1 * 17592186044416) (v + 274877906944) && Nat.ble v (q.2 * 17592186044416 + 274877906944)
def good (k c s : Nat) : Bool := Nat.ble (s * s0) (c * c0) && near (qN k) s && near (qN (16384 - k)) c

/-- A number, known before one goes on. -/
def st (n : Nat) (f : Nat → Bool) : Bool := Nat.rec (f 0) (fun m _ => f (m + 1)) n
theorem st_eq (n : Nat) (f : Nat → Bool) : st n f = f n := by cases n <;> rfl

def chk : Nat → Nat → Nat → Nat → Bool
  | 0, _, c, s => Nat.ble c 1073741824 && Nat.ble K (s + 1073741824) && Nat.ble s (K + 1073741824)
  | f + 1, k, c, s => bif good k c s then st ((c * c0 - s * s0) / K) fun c' => st ((s * c0 + c * s0) / K) fun s' => chk f (k + 1) c' s' else false

theorem chk_all : chk 16384 0 K 0 = true := by kernel_rfl


end Go.RX
