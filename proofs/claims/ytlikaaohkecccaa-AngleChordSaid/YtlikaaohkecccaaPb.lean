/-
  The law of the chord.
-/
import Derived.Test.YtlikaaohkecccaaPd
namespace Go.RX
open Go

theorem chord_law (a : Int) : armplanlaw3_AngleChord a = true := by
  obtain ⟨h1, h2⟩ := round_eq (n := a) (k := 16385) (by omega) (by omega)
  unfold armplanlaw3_AngleChord t_armplanlaw3_AngleChord
  simp only [awake3]
  generalize armplanmake_Round a 16385 = i at *
  obtain ⟨r, rfl⟩ : ∃ r : Nat, i = (r : Int) := ⟨i.toNat, by omega⟩
  have hr : r ≤ 16384 := by omega
  have hc := upto_spec chord_all r (by omega)
  rw [sin_eq, S_of (m := r) (by omega), sin_1 hr]
  simp only [chordN, Bool.and_eq_true] at hc
  obtain ⟨⟨c1, c2⟩, c3⟩ := hc
  replace c1 := Nat.le_of_ble_eq_true c1
  replace c2 := Nat.le_of_ble_eq_true c2
  replace c3 := Nat.le_of_ble_eq_true c3
  have q : Int.tdiv ((r : Int) * 411775) 65536 = ((r * 411775 / 65536 : Nat) : Int) := by
    rw [Int.tdiv_eq_ediv_of_nonneg (by omega)]; omega
  rw [wrap64 (x := 4 * (r : Int)) (by omega) (by omega), wrap64 (x := 4 * (r : Int) - 2) (by omega) (by omega), wrap64 (x := (r : Int) * 411775) (by omega) (by omega), q]
  rw [wrap64 (x := ((r * 411775 / 65536 : Nat) : Int)) (by omega) (by omega), wrap64 (x := ((r * 411775 / 65536 : Nat) : Int) + 1) (by omega) (by omega)]
  have key : ∀ (s : Nat × Nat) (m : Nat), 4 * r ≤ s.2 → 4 * r ≤ s.1 + 2 → s.1 ≤ m + 1 → (Tr.br true (.br (decide (4 * (r : Int) ≤ (pos s).2)) (.br (decide (4 * (r : Int) - 2 ≤ (pos s).1)) (.leaf (decide ((pos s).1 ≤ (m : Int) + 1))) (.leaf false)) (.leaf false)) (.leaf false)).val = true := by
    intro s m k1 k2 k3
    simp only [pos]
    exact tr_bool _ _ _ rfl (tr_bool _ _ _ (decide_eq_true (by omega)) (tr_bool _ _ _ (decide_eq_true (by omega)) (decide_eq_true (by omega))))
  exact key _ _ c1 c2 c3

end Go.RX
