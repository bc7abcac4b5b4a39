/-
  The sine of the first quarter as a function of natural numbers: nothing of the program stands here.
-/
import Derived.KernelRfl
namespace Go.RX

def upN (x y : Nat) : Nat := (x + (y - 1)) / y
def mulN (x y : Nat) : Nat := x * y / 1073741824
def mulU (x y : Nat) : Nat := upN (x * y) 1073741824

/-- The powers of a number below 1, rounded down and up. -/
def lowP (a : Nat) : Nat → Nat
  | 0 => a
  | k + 1 => mulN (lowP a k) a
def uppP (b : Nat) : Nat → Nat
  | 0 => b
  | k + 1 => mulU (uppP b k) b

/-- The greatest power of the series. -/
def top1 : Nat := 843314858

def lo1 (x : Nat) : Nat := x * 6746518852 / 65536
def hi1 (x : Nat) : Nat := upN (x * 6746518853) 65536
def encN (low high : Nat) : Nat × Nat := (low / 16384, if upN high 16384 < 65536 then upN high 16384 else 65536)

def sineN (x : Nat) : Nat × Nat :=
  let a := lo1 x
  let b := hi1 x
  encN ((a + lowP a 4 / 120) - (upN (uppP b 2) 6 + upN (uppP b 6) 5040)) ((b + upN (uppP b 4) 120 + upN (uppP b 8) 362880) - (lowP a 2 / 6 + lowP a 6 / 5040))

def cosN (x : Nat) : Nat × Nat :=
  let a := lo1 x
  let b := hi1 x
  encN ((1073741824 + lowP a 3 / 24 + lowP a 7 / 40320) - (upN (uppP b 1) 2 + upN (uppP b 5) 720 + upN (uppP b 9) 3628800)) ((1073741824 + upN (uppP b 3) 24 + upN (uppP b 7) 40320) - (lowP a 1 / 2 + lowP a 5 / 720))

/-- The sine of the first quarter. -/
def qN (r : Nat) : Nat × Nat := bif Nat.ble r 8192 then sineN r else cosN (16384 - r)

def upto (f : Nat → Bool) : Nat → Bool
  | 0 => true
  | n + 1 => bif f n then upto f n else false

theorem upto_spec {f : Nat → Bool} : ∀ {n : Nat}, upto f n = true → ∀ k, k < n → f k = true
  | 0, _, k, hk => by omega
  | n + 1, h, k, hk => by
    simp only [upto] at h
    cases hf : f n with
    | false => rw [hf] at h; simp at h
    | true =>
      rw [hf] at h
      rcases Nat.lt_or_ge k n with hlt | hge
      · exact upto_spec (n := n) h k hlt
      · have : k = n := by omega
        rw [this]; exact hf

end Go.RX
