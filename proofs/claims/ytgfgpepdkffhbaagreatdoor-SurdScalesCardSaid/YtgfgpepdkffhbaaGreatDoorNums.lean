/- Plain facts on lists of pieces: values to a base, the canonical list of a number. -/
import Derived.Lib.ItoaNum
namespace Go.Proofs.YtgfgpepdkffhbaaGreatDoor.Kl
set_option linter.unusedVariables false
set_option linter.unusedSimpArgs false
open Go.Lib

/-- the number of a list of pieces, the least piece first. -/
def val (B : Nat) : List Nat → Nat
  | [] => 0
  | x :: xs => x + B * val B xs

/-- the canonical pieces of a number. -/
def pcs (B : Nat) (n : Nat) : List Nat :=
  if h : n = 0 ∨ B ≤ 1 then [] else n % B :: pcs B (n / B)
termination_by n
decreasing_by exact Nat.div_lt_self (by omega) (by omega)

/-- all pieces less than the base. -/
def Dig (B : Nat) (xs : List Nat) : Prop := ∀ x ∈ xs, x < B

theorem Dig.nil (B : Nat) : Dig B [] := fun _ h => by cases h
theorem Dig.cons {B x : Nat} {xs : List Nat} (h : x < B) (hs : Dig B xs) : Dig B (x :: xs) := fun y hy => by
  rcases List.mem_cons.1 hy with rfl | hy
  · exact h
  · exact hs y hy
theorem Dig.app {B : Nat} {xs ys : List Nat} (h : Dig B xs) (hs : Dig B ys) : Dig B (xs ++ ys) := fun y hy => by
  rcases List.mem_append.1 hy with hy | hy
  · exact h y hy
  · exact hs y hy
theorem Dig.one {B x : Nat} (h : x < B) : Dig B [x] := Dig.cons h (Dig.nil B)
theorem Dig.tail {B x : Nat} {xs : List Nat} (h : Dig B (x :: xs)) : Dig B xs := fun y hy => h y (List.mem_cons_of_mem _ hy)
theorem Dig.head {B x : Nat} {xs : List Nat} (h : Dig B (x :: xs)) : x < B := h x (List.mem_cons_self ..)
theorem Dig.take {B : Nat} {xs : List Nat} (h : Dig B xs) (n : Nat) : Dig B (xs.take n) := fun y hy => h y (List.mem_of_mem_take hy)
theorem Dig.drop {B : Nat} {xs : List Nat} (h : Dig B xs) (n : Nat) : Dig B (xs.drop n) := fun y hy => h y (List.mem_of_mem_drop hy)
theorem Dig.get {B : Nat} {xs : List Nat} (h : Dig B xs) {i : Nat} (hi : i < xs.length) : xs[i] < B := h _ (List.getElem_mem _)
theorem Dig.left {B : Nat} {xs ys : List Nat} (h : Dig B (xs ++ ys)) : Dig B xs := fun y hy => h y (List.mem_append_left _ hy)
theorem Dig.right {B : Nat} {xs ys : List Nat} (h : Dig B (xs ++ ys)) : Dig B ys := fun y hy => h y (List.mem_append_right _ hy)

theorem val_append (B : Nat) (xs ys : List Nat) : val B (xs ++ ys) = val B xs + B ^ xs.length * val B ys := by
  induction xs with
  | nil => simp [val]
  | cons x xs ih => simp only [List.cons_append, val, ih, List.length_cons, Nat.pow_succ]; rw [Nat.mul_add, Nat.mul_comm (B ^ xs.length) B, Nat.mul_assoc]; omega

theorem val_snoc (B : Nat) (xs : List Nat) (x : Nat) : val B (xs ++ [x]) = val B xs + B ^ xs.length * x := by
  rw [val_append]; simp [val]

theorem val_lt {B : Nat} {xs : List Nat} (h : Dig B xs) : val B xs < B ^ xs.length := by
  induction xs with
  | nil => simp [val]
  | cons x xs ih =>
    have h1 := ih h.tail
    have h2 := h.head
    simp only [val, List.length_cons, Nat.pow_succ]
    calc x + B * val B xs < B + B * val B xs := by omega
      _ = B * (val B xs + 1) := by rw [Nat.mul_add]; omega
      _ ≤ B * B ^ xs.length := Nat.mul_le_mul_left _ h1
      _ = B ^ xs.length * B := Nat.mul_comm _ _

theorem val_replicate (B n : Nat) : val B (List.replicate n 0) = 0 := by
  induction n with
  | zero => rfl
  | succ n ih => simp [List.replicate_succ, val, ih]

theorem pcs_zero (B : Nat) : pcs B 0 = [] := by rw [pcs]; simp
theorem pcs_pos {B n : Nat} (hn : n ≠ 0) (hB : 1 < B) : pcs B n = n % B :: pcs B (n / B) := by rw [pcs]; rw [dif_neg (by omega)]

theorem val_pcs {B : Nat} (hB : 1 < B) (n : Nat) : val B (pcs B n) = n := by
  induction n using Nat.strongRecOn with
  | _ n ih =>
    by_cases h : n = 0
    · subst h; rw [pcs_zero]; rfl
    · rw [pcs_pos h hB, val, ih (n / B) (Nat.div_lt_self (by omega) hB)]
      exact Nat.mod_add_div n B

theorem dig_pcs {B : Nat} (hB : 1 < B) (n : Nat) : Dig B (pcs B n) := by
  induction n using Nat.strongRecOn with
  | _ n ih =>
    by_cases h : n = 0
    · subst h; rw [pcs_zero]; exact Dig.nil B
    · rw [pcs_pos h hB]
      exact Dig.cons (Nat.mod_lt _ (by omega)) (ih (n / B) (Nat.div_lt_self (by omega) hB))

theorem pcs_cons {B x n : Nat} (hB : 1 < B) (hx : x < B) (h : x + B * n ≠ 0) : pcs B (x + B * n) = x :: pcs B n := by
  rw [pcs_pos h hB]
  have h1 : (x + B * n) % B = x := by rw [Nat.add_mul_mod_self_left]; exact Nat.mod_eq_of_lt hx
  have h2 : (x + B * n) / B = n := by rw [Nat.add_mul_div_left _ _ (by omega), Nat.div_eq_of_lt hx]; omega
  rw [h1, h2]

/-- a list of pieces without a zero at its end is the canonical one. -/
theorem pcs_val {B : Nat} (hB : 1 < B) : ∀ {xs : List Nat}, Dig B xs → (∀ h : xs ≠ [], xs.getLast h ≠ 0) → pcs B (val B xs) = xs
  | [], _, _ => pcs_zero B
  | x :: xs, h, hl => by
    have hx : x + B * val B xs ≠ 0 := by
      intro h0
      have h00 : x = 0 := by omega
      have h01 : B * val B xs = 0 := by omega
      have hv : val B xs = 0 := by
        rcases Nat.mul_eq_zero.1 h01 with h | h
        · omega
        · exact h
      by_cases hxs : xs = []
      · subst hxs; exact hl (by simp) (by simpa using h00)
      · have hp := pcs_val hB h.tail (fun hh => by have := hl (by simp); rwa [List.getLast_cons hh] at this)
        rw [hv, pcs_zero] at hp
        exact hxs hp.symm
    rw [val, pcs_cons hB h.head hx]
    by_cases hxs : xs = []
    · subst hxs; rw [val, pcs_zero]
    · rw [pcs_val hB h.tail (fun hh => by have := hl (by simp); rwa [List.getLast_cons hh] at this)]

theorem pcs_nil_iff {B : Nat} (hB : 1 < B) {n : Nat} : pcs B n = [] ↔ n = 0 := by
  constructor
  · intro h; have := val_pcs hB n; rw [h] at this; exact this.symm
  · rintro rfl; exact pcs_zero B

theorem pcs_last {B : Nat} (hB : 1 < B) (n : Nat) : ∀ h : pcs B n ≠ [], (pcs B n).getLast h ≠ 0 := by
  induction n using Nat.strongRecOn with
  | _ n ih =>
    intro h
    have hn : n ≠ 0 := fun e => h ((pcs_nil_iff hB).2 e)
    have hp := pcs_pos hn hB
    by_cases hz : n / B = 0
    · have hlt : n < B := by
        rcases Nat.lt_or_ge n B with h | h
        · exact h
        · have := Nat.div_pos h (by omega); omega
      have e : pcs B n = [n] := by rw [hp, hz, pcs_zero, Nat.mod_eq_of_lt hlt]
      intro h0
      have : (pcs B n).getLast h = n := by simp [e]
      omega
    · have hne : pcs B (n / B) ≠ [] := fun e => hz ((pcs_nil_iff hB).1 e)
      have := ih (n / B) (Nat.div_lt_self (by omega) hB) hne
      intro h0
      apply this
      have e2 : (pcs B n).getLast h = (n % B :: pcs B (n / B)).getLast (by simp) := by congr 1
      rw [e2, List.getLast_cons hne] at h0
      exact h0

theorem pcs_len_lt {B : Nat} (hB : 1 < B) (n : Nat) : n < B ^ (pcs B n).length := by
  have := val_lt (dig_pcs hB n)
  rwa [val_pcs hB] at this

theorem pcs_len_le {B : Nat} (hB : 1 < B) {n : Nat} (hn : n ≠ 0) : B ^ ((pcs B n).length - 1) ≤ n := by
  induction n using Nat.strongRecOn with
  | _ n ih =>
    rw [pcs_pos hn hB]
    by_cases hz : n / B = 0
    · rw [hz, pcs_zero]; simp; omega
    · have h1 := ih (n / B) (Nat.div_lt_self (by omega) hB) hz
      have hp : 1 ≤ (pcs B (n / B)).length := by
        rcases Nat.eq_zero_or_pos (pcs B (n / B)).length with h | h
        · exact absurd ((pcs_nil_iff hB).1 (List.eq_nil_of_length_eq_zero h)) hz
        · exact h
      simp only [List.length_cons, Nat.add_sub_cancel]
      have e : (pcs B (n / B)).length = ((pcs B (n / B)).length - 1) + 1 := by omega
      rw [e, Nat.pow_succ]
      calc B ^ ((pcs B (n / B)).length - 1) * B ≤ (n / B) * B := Nat.mul_le_mul_right _ h1
        _ ≤ n := Nat.div_mul_le_self n B

/-- how many pieces a number has, by bounds. -/
theorem pcs_len_le_of_lt {B : Nat} (hB : 1 < B) {n k : Nat} (h : n < B ^ k) : (pcs B n).length ≤ k := by
  by_cases hn : n = 0
  · subst hn; rw [pcs_zero]; simp
  · have h1 := pcs_len_le hB hn
    have h2 : B ^ ((pcs B n).length - 1) < B ^ k := Nat.lt_of_le_of_lt h1 h
    have h3 := (Nat.pow_lt_pow_iff_right hB).1 h2
    omega

/-- zeros at the end are left out. -/
def trimL (xs : List Nat) : List Nat := (xs.reverse.dropWhile (· == 0)).reverse

theorem trimL_nil : trimL [] = [] := rfl
theorem trimL_snoc_zero (xs : List Nat) : trimL (xs ++ [0]) = trimL xs := by simp [trimL]
theorem trimL_snoc_pos (xs : List Nat) {x : Nat} (h : x ≠ 0) : trimL (xs ++ [x]) = xs ++ [x] := by
  simp [trimL, h]

theorem snoc_cases (xs : List Nat) : xs = [] ∨ ∃ ys x, xs = ys ++ [x] := by
  rcases List.eq_nil_or_concat xs with h | ⟨ys, x, h⟩
  · exact .inl h
  · exact .inr ⟨ys, x, by simpa using h⟩

theorem trim_pcs {B : Nat} (hB : 1 < B) : ∀ (n : Nat) {xs : List Nat}, xs.length = n → Dig B xs → trimL xs = pcs B (val B xs)
  | 0, xs, hn, _ => by have := List.eq_nil_of_length_eq_zero hn; subst this; rw [trimL_nil, val, pcs_zero]
  | n + 1, xs, hn, h => by
    rcases snoc_cases xs with rfl | ⟨ys, x, rfl⟩
    · simp at hn
    · by_cases hx : x = 0
      · subst hx
        rw [trimL_snoc_zero, trim_pcs hB n (by simpa using hn) h.left, val_snoc]; simp
      · rw [trimL_snoc_pos _ hx, pcs_val hB h (fun _ => by simpa using hx)]

theorem trim_pcs' {B : Nat} (hB : 1 < B) {xs : List Nat} (h : Dig B xs) : trimL xs = pcs B (val B xs) := trim_pcs hB _ rfl h

/-- comparing pieces: from the last one down. -/
theorem val_lt_of_last {B : Nat} {xs ys : List Nat} {x y : Nat} (hx : Dig B xs) (hl : xs.length = ys.length) (h : x < y) : val B (xs ++ [x]) < val B (ys ++ [y]) := by
  rw [val_snoc, val_snoc]
  have h1 := val_lt hx
  calc val B xs + B ^ xs.length * x < B ^ xs.length + B ^ xs.length * x := by omega
    _ = B ^ xs.length * (x + 1) := by rw [Nat.mul_add]; omega
    _ ≤ B ^ xs.length * y := Nat.mul_le_mul_left _ h
    _ = B ^ ys.length * y := by rw [hl]
    _ ≤ val B ys + B ^ ys.length * y := by omega

theorem lt_of_len_lt {B : Nat} (hB : 1 < B) {m n : Nat} (h : (pcs B m).length < (pcs B n).length) : m < n := by
  have hn : n ≠ 0 := by rintro rfl; rw [pcs_zero] at h; simp at h
  have h1 := pcs_len_lt hB m
  have h2 := pcs_len_le hB hn
  calc m < B ^ (pcs B m).length := h1
    _ ≤ B ^ ((pcs B n).length - 1) := Nat.pow_le_pow_right (by omega) (by omega)
    _ ≤ n := h2

end Go.Proofs.YtgfgpepdkffhbaaGreatDoor.Kl
