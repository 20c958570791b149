/- The integer square root and Newton's steps from above: plain laws. -/
import Derived.Test.YtgfgpepdkffhbaaGreatDoorNums
import Derived.Test.YtgfgpepdkffhbaaGreatDoorBound
namespace Go.Proofs.YtgfgpepdkffhbaaGreatDoor.Kl
set_option linter.unusedVariables false

/-- the greatest integer whose square is not greater. -/
def isqrt : Nat → Nat
  | 0 => 0
  | n + 1 => if (isqrt n + 1) * (isqrt n + 1) ≤ n + 1 then isqrt n + 1 else isqrt n

theorem isqrt_spec : ∀ n, isqrt n * isqrt n ≤ n ∧ n < (isqrt n + 1) * (isqrt n + 1)
  | 0 => by simp [isqrt]
  | n + 1 => by
    have ⟨h1, h2⟩ := isqrt_spec n
    unfold isqrt
    split
    · rename_i h
      refine ⟨h, ?_⟩
      have e : (isqrt n + 1 + 1) * (isqrt n + 1 + 1) = (isqrt n + 1) * (isqrt n + 1) + 2 * (isqrt n + 1) + 1 := by
        rw [Nat.add_mul, Nat.mul_add]; omega
      rw [e]; omega
    · rename_i h
      exact ⟨by omega, by omega⟩
theorem isqrt_le (n : Nat) : isqrt n * isqrt n ≤ n := (isqrt_spec n).1
theorem lt_isqrt (n : Nat) : n < (isqrt n + 1) * (isqrt n + 1) := (isqrt_spec n).2

theorem le_isqrt {n x : Nat} (h : x * x ≤ n) : x ≤ isqrt n := by
  apply Nat.le_of_not_lt
  intro hlt
  have h1 : (isqrt n + 1) * (isqrt n + 1) ≤ x * x := Nat.mul_le_mul hlt hlt
  have := lt_isqrt n
  omega
theorem isqrt_unique {n s : Nat} (h1 : s * s ≤ n) (h2 : n < (s + 1) * (s + 1)) : isqrt n = s := by
  apply Nat.le_antisymm
  · apply Nat.le_of_not_lt
    intro h
    have := Nat.mul_le_mul h h
    have := isqrt_le n
    simp only [Nat.succ_eq_add_one] at *
    omega
  · exact le_isqrt h1
theorem isqrt_sq (s : Nat) : isqrt (s * s) = s := isqrt_unique (Nat.le_refl _) (by rw [Nat.add_mul, Nat.mul_add]; omega)
theorem isqrt_zero_iff {n : Nat} : isqrt n = 0 ↔ n = 0 := by
  constructor
  · intro h
    have := lt_isqrt n
    rw [h] at this; omega
  · rintro rfl; rfl

/-- a step from above stays above. -/
theorem newton_ge {n x : Nat} (hx : 0 < x) : isqrt n ≤ (x + n / x) / 2 := by
  have hs := isqrt_le n
  obtain ⟨s, hs'⟩ : ∃ s, isqrt n = s := ⟨_, rfl⟩
  rw [hs'] at hs ⊢
  rw [Nat.le_div_iff_mul_le (by decide)]
  rcases Nat.lt_or_ge (2 * s) x with h | h
  · generalize n / x = q; omega
  · have : 2 * s - x ≤ n / x := by
      rw [Nat.le_div_iff_mul_le hx]
      refine Nat.le_trans ?_ hs
      obtain ⟨d, hd⟩ : ∃ d, 2 * s - x = d := ⟨_, rfl⟩
      rw [hd]
      have h2 : 2 * s = d + x := by omega
      have h4 : 4 * (d * x) ≤ (d + x) * (d + x) := by
        rcases Nat.le_total d x with hle | hle
        · obtain ⟨k, rfl⟩ := Nat.exists_eq_add_of_le hle
          have : (d + (d + k)) * (d + (d + k)) = 4 * (d * (d + k)) + k * k := by
            simp only [Nat.add_mul, Nat.mul_add, Nat.mul_comm k d]; omega
          omega
        · obtain ⟨k, rfl⟩ := Nat.exists_eq_add_of_le hle
          have : (x + k + x) * (x + k + x) = 4 * ((x + k) * x) + k * k := by
            simp only [Nat.add_mul, Nat.mul_add, Nat.mul_comm k x]; omega
          omega
      rw [← h2] at h4
      have : 2 * s * (2 * s) = 4 * (s * s) := by
        rw [Nat.mul_mul_mul_comm]
      omega
    generalize n / x = q at this; omega

/-- where a step does not come down, the root is reached. -/
theorem newton_stop {n x : Nat} (hx : 0 < x) (hge : isqrt n ≤ x) (h : x ≤ (x + n / x) / 2) : x = isqrt n := by
  have h1 : x ≤ n / x := by
    rw [Nat.le_div_iff_mul_le (by decide)] at h; generalize n / x = q at h ⊢; omega
  rw [Nat.le_div_iff_mul_le hx] at h1
  exact Nat.le_antisymm (le_isqrt h1) hge

/-- the first one is above. -/
theorem isqrt_start {n k B : Nat} (hB : 1 ≤ B) (h : n < B ^ k) : isqrt n ≤ B ^ ((k + 1) / 2) := by
  apply Nat.le_of_not_lt
  intro hlt
  have h1 := isqrt_le n
  have h2 : B ^ ((k + 1) / 2) * B ^ ((k + 1) / 2) ≤ isqrt n * isqrt n := Nat.mul_le_mul (Nat.le_of_lt hlt) (Nat.le_of_lt hlt)
  rw [← Nat.pow_add] at h2
  have h3 : B ^ k ≤ B ^ ((k + 1) / 2 + (k + 1) / 2) := Nat.pow_le_pow_right hB (by omega)
  omega

theorem pcs_pow (k : Nat) : pcs 1000000000 (1000000000 ^ k) = List.replicate k 0 ++ [1] := by
  have h := pcs_val (B := 1000000000) (by decide) (xs := List.replicate k 0 ++ [1]) ?_ ?_
  · rw [val_snoc, val_replicate, List.length_replicate, Nat.mul_one, Nat.zero_add] at h; exact h
  · refine Dig.app (fun x hx => ?_) (Dig.one (by decide))
    rw [List.eq_of_mem_replicate hx]; decide
  · intro hne; simp
end Go.Proofs.YtgfgpepdkffhbaaGreatDoor.Kl
