/- Long division of magnitudes: the plain law. -/
import Derived.Test.YtgfgpepdkffhbaaGreatDoorNums
namespace Go.Proofs.YtgfgpepdkffhbaaGreatDoor.Kl
set_option linter.unusedVariables false

theorem pcs_get {B : Nat} (hB : 1 < B) : ∀ (i n : Nat), i < (pcs B n).length → (pcs B n)[i]? = some (n / B ^ i % B)
  | 0, n, h => by
    by_cases hn : n = 0
    · rw [hn, pcs_zero] at h; cases h
    · rw [pcs_pos hn hB]; simp
  | i + 1, n, h => by
    by_cases hn : n = 0
    · rw [hn, pcs_zero] at h; cases h
    · rw [pcs_pos hn hB] at h ⊢
      simp only [List.length_cons] at h
      rw [List.getElem?_cons_succ, pcs_get hB i (n / B) (by omega), Nat.pow_succ, Nat.mul_comm (B ^ i) B, Nat.div_div_eq_div_mul]

/-- the length of a number between powers. -/
theorem pcs_len_of {B : Nat} (hB : 1 < B) {n k : Nat} (h0 : B ^ k ≤ n) (h1 : n < B ^ (k + 1)) : (pcs B n).length = k + 1 := by
  have h2 := pcs_len_le_of_lt hB h1
  rcases Nat.lt_or_ge (pcs B n).length (k + 1) with h3 | h3
  · have h4 := pcs_len_lt hB n
    have h5 : B ^ (pcs B n).length ≤ B ^ k := Nat.pow_le_pow_right (by omega) (by omega)
    omega
  · omega

theorem pcs_top {B : Nat} (hB : 1 < B) {n k : Nat} (h0 : B ^ k ≤ n) (h1 : n < B ^ (k + 1)) : (pcs B n)[k]? = some (n / B ^ k) := by
  have hl := pcs_len_of hB h0 h1
  rw [pcs_get hB k n (by omega), Nat.mod_eq_of_lt]
  apply Nat.div_lt_of_lt_mul
  rwa [Nat.pow_succ] at h1

/-- what the scaling gives. -/
structure Scale (B y k f : Nat) : Prop where
  fpos : 0 < f
  flt : f < B
  low : B ^ k ≤ f * y
  high : f * y < B ^ (k + 1)

theorem scale {B y k : Nat} (hB : 1 < B) (h0 : B ^ k ≤ y) (h1 : y < B ^ (k + 1)) : Scale B y k (B / (y / B ^ k + 1)) := by
  have hk : 0 < B ^ k := Nat.pow_pos (by omega)
  have hL0 : 1 ≤ y / B ^ k := (Nat.one_le_div_iff hk).2 h0
  have hL1 : y / B ^ k < B := by
    apply Nat.div_lt_of_lt_mul
    rwa [Nat.pow_succ] at h1
  generalize hL : y / B ^ k = L at *
  have hf1 : 0 < B / (L + 1) := Nat.div_pos (by omega) (by omega)
  have hfl : B / (L + 1) * (L + 1) ≤ B := Nat.div_mul_le_self _ _
  refine ⟨hf1, Nat.div_lt_self (by omega) (by omega), ?_, ?_⟩
  · exact Nat.le_trans h0 (Nat.le_mul_of_pos_left _ hf1)
  · have hy : y < (L + 1) * B ^ k := by
      rw [← hL, Nat.add_mul, Nat.one_mul, Nat.mul_comm]
      exact Nat.lt_mul_div_succ _ hk
    generalize B / (L + 1) = f at *
    calc f * y < f * ((L + 1) * B ^ k) := Nat.mul_lt_mul_of_pos_left hy hf1
      _ = f * (L + 1) * B ^ k := by rw [Nat.mul_assoc]
      _ ≤ B * B ^ k := Nat.mul_le_mul_right _ hfl
      _ = B ^ (k + 1) := by rw [Nat.pow_succ, Nat.mul_comm]

/-- the estimate is no less than the piece of the quotient. -/
theorem estimate {B b k R : Nat} (hB : 1 < B) (h0 : B ^ k ≤ b) (hR : R < B * b) : R / b ≤ min (R / B ^ k / (b / B ^ k)) (B - 1) := by
  have hk : 0 < B ^ k := Nat.pow_pos (by omega)
  have hb : 0 < b := by omega
  have hT : 1 ≤ b / B ^ k := (Nat.one_le_div_iff hk).2 h0
  apply Nat.le_min.2
  constructor
  · rw [Nat.div_div_eq_div_mul]
    exact Nat.div_le_div_left (Nat.mul_div_le _ _) (Nat.mul_pos hk (by omega))
  · have : R / b < B := Nat.div_lt_of_lt_mul (by rw [Nat.mul_comm]; exact hR)
    omega

/-- the quotient's pieces from j on. -/
structure QInv (B a b n j : Nat) (qs : List Nat) : Prop where
  len : qs.length = n
  dig : Dig B qs
  low : ∀ k, k < j → qs[k]? = some 0
  up : val B (qs.drop j) = a / B ^ j / b

theorem QInv.start {B a b : Nat} (hB : 1 < B) : QInv B a b (pcs B a).length (pcs B a).length (List.replicate (pcs B a).length 0) := by
  refine ⟨by simp, fun x hx => by rw [List.eq_of_mem_replicate hx]; omega, fun k hk => by simp [hk], ?_⟩
  rw [Nat.div_eq_of_lt (pcs_len_lt hB a)]
  simp [val]

theorem rest_step {B a b i : Nat} (hb : 0 < b) : a / B ^ i % b = (a / B ^ i % B + B * (a / B ^ (i + 1) % b)) % b ∧ a / B ^ i / b = B * (a / B ^ (i + 1) / b) + (a / B ^ i % B + B * (a / B ^ (i + 1) % b)) / b := by
  have e1 : a / B ^ (i + 1) = a / B ^ i / B := by rw [Nat.pow_succ, Nat.div_div_eq_div_mul]
  rw [e1]
  generalize a / B ^ i = A
  have h1 := Nat.mod_add_div A B
  have h2 := Nat.mod_add_div (A / B) b
  have h3 : A = A % B + B * (A / B % b) + b * (B * (A / B / b)) := by
    rw [Nat.mul_left_comm b B, Nat.add_assoc, ← Nat.mul_add, h2, h1]
  constructor
  · conv => lhs; rw [h3]
    rw [Nat.add_mul_mod_self_left]
  · conv => lhs; rw [h3]
    rw [Nat.add_mul_div_left _ _ hb, Nat.add_comm]

theorem rest_lt {B b p R : Nat} (hp : p < B) (hR : R < b) : p + B * R < B * b := by
  have : B * (R + 1) ≤ B * b := Nat.mul_le_mul_left _ hR
  rw [Nat.mul_add] at this
  omega

theorem QInv.keep {B a b n i : Nat} {qs : List Nat} (h : QInv B a b n (i + 1) qs) (hb : 0 < b) (hi : i < n) (hlt : a / B ^ i % B + B * (a / B ^ (i + 1) % b) < b) : QInv B a b n i qs := by
  obtain ⟨h1, h2, h3, h4⟩ := h
  refine ⟨h1, h2, fun k hk => h3 k (by omega), ?_⟩
  have hil : i < qs.length := by omega
  have h0 : qs[i] = 0 := by
    have := h3 i (by omega)
    rw [List.getElem?_eq_getElem hil] at this
    exact Option.some.inj this
  rw [List.drop_eq_getElem_cons hil, val, h0, h4]
  have := (rest_step (B := B) (a := a) (i := i) hb).2
  rw [Nat.div_eq_of_lt hlt] at this
  omega

theorem QInv.step {B a b n i : Nat} {qs : List Nat} (h : QInv B a b n (i + 1) qs) (hb : 0 < b) (hi : i < n) (hB : 0 < B) (hR : a / B ^ i % B + B * (a / B ^ (i + 1) % b) < B * b) :
    QInv B a b n i (qs.set i ((a / B ^ i % B + B * (a / B ^ (i + 1) % b)) / b)) := by
  obtain ⟨h1, h2, h3, h4⟩ := h
  have hil : i < qs.length := by omega
  refine ⟨by simp [h1], ?_, fun k hk => ?_, ?_⟩
  · intro y hy
    rcases List.mem_or_eq_of_mem_set hy with h5 | h5
    · exact h2 y h5
    · rw [h5]; exact Nat.div_lt_of_lt_mul (by rw [Nat.mul_comm b B]; exact hR)
  · rw [List.getElem?_set_ne (by omega)]; exact h3 k (by omega)
  · have hil' : i < (qs.set i ((a / B ^ i % B + B * (a / B ^ (i + 1) % b)) / b)).length := by simpa using hil
    rw [List.drop_eq_getElem_cons hil', val, List.getElem_set_self, List.drop_set_of_lt (by omega), h4]
    have := (rest_step (B := B) (a := a) (i := i) hb).2
    omega

theorem QInv.fin {B a b n : Nat} {qs : List Nat} (hB : 1 < B) (h : QInv B a b n 0 qs) : trimL qs = pcs B (a / b) := by
  rw [trim_pcs' hB h.dig]
  have := h.up
  simp only [List.drop_zero, Nat.pow_zero, Nat.div_one] at this
  rw [this]

/-- the last try is the piece. -/
theorem try_done {b R d : Nat} (hb : 0 < b) (h0 : R / b ≤ d) (h1 : b * d ≤ R) : d = R / b := by
  have : d ≤ R / b := (Nat.le_div_iff_mul_le hb).2 (by rw [Nat.mul_comm]; exact h1)
  omega
theorem try_more {b R d : Nat} (hb : 0 < b) (h0 : R / b ≤ d) (h1 : R < b * d) : R / b + 1 ≤ d := by
  have : R / b < d := Nat.div_lt_of_lt_mul h1
  omega

end Go.Proofs.YtgfgpepdkffhbaaGreatDoor.Kl
