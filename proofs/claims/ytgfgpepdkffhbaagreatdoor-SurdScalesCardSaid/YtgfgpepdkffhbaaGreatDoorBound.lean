/- A number's pieces are no more than its text's bytes; its text is short where it is small. -/
import Derived.Test.YtgfgpepdkffhbaaGreatDoorNums
import Derived.Test.YtgfgpepdkffhbaaGreatDoorTxt
namespace Go.Proofs.YtgfgpepdkffhbaaGreatDoor.Kl
set_option linter.unusedVariables false

theorem dec_lt (u : Nat) : u < 10 ^ (Lib.decDigits u).length := by
  have := dval_lt (dec_all u)
  rwa [dval_dec] at this

theorem natAbs_lt (x : Int) : x.natAbs < 10 ^ (Lib.itoa x).length := by
  have h := dec_lt x.natAbs
  by_cases hx : x < 0
  · rw [itoa_neg' hx, List.length_cons, Nat.pow_succ]; omega
  · rw [itoa_pos' (by omega)]; exact h

theorem pcs_itoa (x : Int) : (pcs 1000000000 x.natAbs).length ≤ (Lib.itoa x).length := by
  apply pcs_len_le_of_lt (by decide)
  exact Nat.lt_of_lt_of_le (natAbs_lt x) (Nat.pow_le_pow_left (by decide) _)

theorem itoa_len_le {x : Int} {k : Nat} (h : x.natAbs < 10 ^ k) (hk : 1 ≤ k) : (Lib.itoa x).length ≤ k + 1 := by
  have := dec_len_le h hk
  by_cases hx : x < 0
  · rw [itoa_neg' hx, List.length_cons]; omega
  · rw [itoa_pos' (by omega)]; omega

theorem itoa_small {x : Int} {k : Nat} (h : (Lib.itoa x).length ≤ k) : x.natAbs < 10 ^ k :=
  Nat.lt_of_lt_of_le (natAbs_lt x) (Nat.pow_le_pow_right (by decide) h)

/-- sums and products of texts of bounded length. -/
theorem itoa_add_le {x y : Int} {k : Nat} (hx : (Lib.itoa x).length ≤ k) (hy : (Lib.itoa y).length ≤ k) : (Lib.itoa (x + y)).length ≤ k + 2 := by
  apply itoa_len_le _ (by omega)
  have h1 := itoa_small hx
  have h2 := itoa_small hy
  rw [Nat.pow_succ]
  omega
theorem itoa_mul_le {x y : Int} {k l : Nat} (hx : (Lib.itoa x).length ≤ k) (hy : (Lib.itoa y).length ≤ l) (hk : 1 ≤ k) : (Lib.itoa (x * y)).length ≤ k + l + 1 := by
  apply itoa_len_le _ (by omega)
  rw [Int.natAbs_mul, Nat.pow_add]
  exact Nat.mul_lt_mul'' (itoa_small hx) (itoa_small hy)
theorem itoa_neg_le {x : Int} {k : Nat} (hx : (Lib.itoa x).length ≤ k) (hk : 1 ≤ k) : (Lib.itoa (-x)).length ≤ k + 1 :=
  itoa_len_le (by rw [Int.natAbs_neg]; exact itoa_small hx) hk

theorem pcs_lt_pow {a N : Nat} (ha : (pcs 1000000000 a).length ≤ N) : a < 1000000000 ^ N :=
  Nat.lt_of_lt_of_le (pcs_len_lt (by decide) a) (Nat.pow_le_pow_right (by decide) ha)
theorem pcs_add_len {a b N : Nat} (ha : (pcs 1000000000 a).length ≤ N) (hb : (pcs 1000000000 b).length ≤ N) : (pcs 1000000000 (a + b)).length ≤ N + 1 := by
  apply pcs_len_le_of_lt (by decide)
  have h1 := pcs_lt_pow ha
  have h2 := pcs_lt_pow hb
  rw [Nat.pow_succ]
  omega
theorem pcs_sub_len {a b N : Nat} (ha : (pcs 1000000000 a).length ≤ N) : (pcs 1000000000 (a - b)).length ≤ N := by
  apply pcs_len_le_of_lt (by decide)
  have h1 := pcs_lt_pow ha
  omega
theorem pcs_mul_len {a b N M : Nat} (ha : (pcs 1000000000 a).length ≤ N) (hb : (pcs 1000000000 b).length ≤ M) : (pcs 1000000000 (a * b)).length ≤ N + M := by
  apply pcs_len_le_of_lt (by decide)
  rw [Nat.pow_add]
  exact Nat.mul_lt_mul'' (pcs_lt_pow ha) (pcs_lt_pow hb)
end Go.Proofs.YtgfgpepdkffhbaaGreatDoor.Kl
