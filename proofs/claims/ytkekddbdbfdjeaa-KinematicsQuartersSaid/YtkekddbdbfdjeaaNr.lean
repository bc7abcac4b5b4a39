/-
  Rational rotations inside the intervals of the sine and the cosine, looked at by the kernel.
-/
import Derived.Test.YtkekddbdbfdjeaaPu
namespace Go.RX

/-- The tangent of half the angle, of 2^60. -/
def tanN (c s : Nat) : Nat := s * K / (K + c)
def holdsN (q : Nat × Nat) (n d : Nat) : Bool := Nat.ble (q.1 * d) n && Nat.ble n (q.2 * d)
def ratAt (k n : Nat) : Bool := Nat.ble n K && holdsN (qN k) (2 * n * K * 65536) (K * K + n * n) && holdsN (qN (16384 - k)) ((K * K - n * n) * 65536) (K * K + n * n)

def rat : Nat → Nat → Nat → Nat → Bool
  | 0, _, _, _ => true
  | f + 1, k, c, s => bif st (tanN c s) (ratAt k) then st ((c * c0 - s * s0) / K) fun c' => st ((s * c0 + c * s0) / K) fun s' => rat f (k + 1) c' s' else false

theorem rat_all : rat 16384 0 K 0 = true := by kernel_rfl

theorem rat_spec : ∀ (f k : Nat), rat f k (zN k).1 (zN k).2 = true → ∀ j, k ≤ j → j < k + f → ratAt j (tanN (zN j).1 (zN j).2) = true
  | 0, k, _ => fun j h1 h2 => by omega
  | f + 1, k, h => by
    simp only [rat, st_eq] at h
    cases hg : ratAt k (tanN (zN k).1 (zN k).2) with
    | false => rw [hg] at h; simp at h
    | true =>
      rw [hg] at h
      have a := rat_spec f (k + 1) h
      intro j h1 h2
      by_cases e : j = k
      · rw [e]; exact hg
      · exact a j (by omega) (by omega)

theorem rat_ex {j : Nat} (h : j < 16384) : ∃ n, ratAt j n = true := ⟨_, rat_spec 16384 0 rat_all j (by omega) (by omega)⟩

end Go.RX
