/- Plain facts on decimal texts: the numeral of an int, cut into pieces and put together again. -/
import Derived.Lib.ItoaNum
namespace Go.Proofs.YtgfgpepdkffhbaaGreatDoor.Kl
set_option linter.unusedVariables false
set_option linter.unusedSimpArgs false
open Go.Lib

/-- a byte that is a digit. -/
def IsDg (c : UInt8) : Prop := 48 ≤ c.toNat ∧ c.toNat ≤ 57
instance (c : UInt8) : Decidable (IsDg c) := inferInstanceAs (Decidable (_ ∧ _))
def AllDg (l : List UInt8) : Prop := ∀ c ∈ l, IsDg c

/-- the number that digits write. -/
def dval : List UInt8 → Nat := fun l => l.foldl (fun n c => 10 * n + (c.toNat - 48)) 0

theorem dval_nil : dval [] = 0 := rfl
theorem dval_snoc (l : List UInt8) (c : UInt8) : dval (l ++ [c]) = 10 * dval l + (c.toNat - 48) := by simp [dval]

theorem AllDg.nil : AllDg [] := fun _ h => by cases h
theorem AllDg.app {a b : List UInt8} (h : AllDg a) (k : AllDg b) : AllDg (a ++ b) := fun c hc => by
  rcases List.mem_append.1 hc with hc | hc
  · exact h c hc
  · exact k c hc
theorem AllDg.left {a b : List UInt8} (h : AllDg (a ++ b)) : AllDg a := fun c hc => h c (List.mem_append_left _ hc)
theorem AllDg.right {a b : List UInt8} (h : AllDg (a ++ b)) : AllDg b := fun c hc => h c (List.mem_append_right _ hc)
theorem AllDg.one {c : UInt8} (h : IsDg c) : AllDg [c] := fun x hx => by simp at hx; subst hx; exact h
theorem AllDg.take {a : List UInt8} (h : AllDg a) (n : Nat) : AllDg (a.take n) := fun c hc => h c (List.mem_of_mem_take hc)
theorem AllDg.drop {a : List UInt8} (h : AllDg a) (n : Nat) : AllDg (a.drop n) := fun c hc => h c (List.mem_of_mem_drop hc)

theorem dgt_toNat {d : Nat} (h : d < 10) : (UInt8.ofNat (48 + d)).toNat = 48 + d := by
  simp [UInt8.toNat_ofNat]; omega
theorem isDg_ofNat {d : Nat} (h : d < 10) : IsDg (UInt8.ofNat (48 + d)) := by
  unfold IsDg; rw [dgt_toNat h]; omega
theorem ofNat_dg {c : UInt8} (h : IsDg c) : UInt8.ofNat (48 + (c.toNat - 48)) = c := by
  unfold IsDg at h
  rw [show 48 + (c.toNat - 48) = c.toNat by omega]; simp

theorem snoc_ind {α : Type} {P : List α → Prop} (h0 : P []) (hs : ∀ l x, P l → P (l ++ [x])) (l : List α) : P l := by
  have h : ∀ n, ∀ l : List α, l.length = n → P l := by
    intro n
    induction n with
    | zero => intro l hl; rw [List.eq_nil_of_length_eq_zero hl]; exact h0
    | succ n ih =>
      intro l hl
      rcases List.eq_nil_or_concat l with h | ⟨ys, x, h⟩
      · subst h; exact h0
      · subst h; simp at hl ⊢; exact hs _ _ (ih _ hl)
  exact h _ l rfl

theorem dval_append (a b : List UInt8) : dval (a ++ b) = dval a * 10 ^ b.length + dval b := by
  refine snoc_ind (P := fun b => dval (a ++ b) = dval a * 10 ^ b.length + dval b) ?_ ?_ b
  · simp [dval_nil]
  · intro b c ih
    rw [← List.append_assoc, dval_snoc, ih, dval_snoc]
    simp only [List.length_append, List.length_singleton, Nat.pow_succ]
    rw [Nat.mul_add, Nat.mul_left_comm, Nat.mul_comm 10 (10 ^ b.length)]; omega

theorem dval_lt {l : List UInt8} (h : AllDg l) : dval l < 10 ^ l.length := by
  refine snoc_ind (P := fun l => AllDg l → dval l < 10 ^ l.length) ?_ ?_ l h
  · intro _; simp [dval_nil]
  · intro l c ih h
    have h1 := ih h.left
    have h2 : IsDg c := h.right c (by simp)
    unfold IsDg at h2
    rw [dval_snoc]; simp only [List.length_append, List.length_singleton, Nat.pow_succ]; omega

theorem dec_small {u : Nat} (h : u < 10) : decDigits u = [UInt8.ofNat (48 + u)] := by rw [decDigits, dif_pos h]
theorem dec_big {u : Nat} (h : ¬ u < 10) : decDigits u = decDigits (u / 10) ++ [UInt8.ofNat (48 + u % 10)] := by rw [decDigits, dif_neg h]

theorem dec_ne (u : Nat) : decDigits u ≠ [] := by
  by_cases h : u < 10
  · rw [dec_small h]; simp
  · rw [dec_big h]; simp

theorem dec_all (u : Nat) : AllDg (decDigits u) := by
  induction u using Nat.strongRecOn with
  | _ u ih =>
    by_cases h : u < 10
    · rw [dec_small h]; exact AllDg.one (isDg_ofNat h)
    · rw [dec_big h]; exact (ih (u / 10) (by omega)).app (AllDg.one (isDg_ofNat (by omega)))

theorem dval_dec (u : Nat) : dval (decDigits u) = u := by
  induction u using Nat.strongRecOn with
  | _ u ih =>
    by_cases h : u < 10
    · rw [dec_small h]; simp only [dval, List.foldl_cons, List.foldl_nil]; rw [dgt_toNat h]; omega
    · rw [dec_big h, dval_snoc, ih (u / 10) (by omega), dgt_toNat (by omega)]; omega

theorem dec_inj {u v : Nat} (h : decDigits u = decDigits v) : u = v := by rw [← dval_dec u, ← dval_dec v, h]

/-- k digits, zeros ahead. -/
def pad : Nat → Nat → List UInt8
  | 0, _ => []
  | k + 1, b => pad k (b / 10) ++ [UInt8.ofNat (48 + b % 10)]

theorem pad_len (k b : Nat) : (pad k b).length = k := by
  induction k generalizing b with
  | zero => rfl
  | succ k ih => simp [pad, ih]
theorem pad_all (k b : Nat) : AllDg (pad k b) := by
  induction k generalizing b with
  | zero => exact AllDg.nil
  | succ k ih => exact (ih _).app (AllDg.one (isDg_ofNat (by omega)))
theorem dval_pad {k b : Nat} (h : b < 10 ^ k) : dval (pad k b) = b := by
  induction k generalizing b with
  | zero => simp at h; subst h; rfl
  | succ k ih =>
    rw [Nat.pow_succ] at h
    rw [pad, dval_snoc, ih (b := b / 10) (by omega), dgt_toNat (by omega)]; omega

/-- the canonical digits of a number that is cut at place k. -/
theorem dec_cut {a k b : Nat} (ha : a ≠ 0) (hb : b < 10 ^ k) : decDigits (a * 10 ^ k + b) = decDigits a ++ pad k b := by
  induction k generalizing b with
  | zero => simp at hb; subst hb; simp [pad]
  | succ k ih =>
    rw [Nat.pow_succ] at hb
    have e : a * 10 ^ (k + 1) = (a * 10 ^ k) * 10 := by rw [Nat.pow_succ, Nat.mul_assoc]
    have hp : 1 ≤ 10 ^ k := Nat.one_le_pow _ _ (by decide)
    have h1 : 1 ≤ a * 10 ^ k := Nat.le_trans hp (Nat.le_mul_of_pos_left _ (by omega))
    rw [e, dec_big (by omega), show (a * 10 ^ k * 10 + b) / 10 = a * 10 ^ k + b / 10 by omega, show (a * 10 ^ k * 10 + b) % 10 = b % 10 by omega,
      ih (by omega), pad, List.append_assoc]

/-- digits without a superfluous zero ahead are canonical. -/
def Lead (l : List UInt8) : Prop := l ≠ [] ∧ (l.head? = some 48 → l.length = 1)

theorem dec_head (u : Nat) : (decDigits u).head? = some 48 → u = 0 := by
  induction u using Nat.strongRecOn with
  | _ u ih =>
    intro h
    by_cases hu : u < 10
    · rw [dec_small hu] at h
      simp only [List.head?_cons, Option.some.injEq] at h
      have := congrArg UInt8.toNat h
      rw [dgt_toNat hu] at this; simp at this; omega
    · rw [dec_big hu] at h
      have hne := dec_ne (u / 10)
      have e : (decDigits (u / 10) ++ [UInt8.ofNat (48 + u % 10)]).head? = (decDigits (u / 10)).head? := by
        cases hq : decDigits (u / 10) with
        | nil => exact absurd hq hne
        | cons a t => rfl
      rw [e] at h
      have := ih (u / 10) (by omega) h
      omega

theorem dec_lead (u : Nat) : Lead (decDigits u) := ⟨dec_ne u, fun h => by rw [dec_head u h, dec_small (by omega)]; rfl⟩

theorem pad_of_digits {l : List UInt8} (h : AllDg l) : pad l.length (dval l) = l := by
  refine snoc_ind (P := fun l => AllDg l → pad l.length (dval l) = l) ?_ ?_ l h
  · intro _; rfl
  · intro l c ih h
    have h2 : IsDg c := h.right c (by simp)
    have h3 := ofNat_dg h2
    unfold IsDg at h2
    simp only [List.length_append, List.length_singleton]
    rw [pad, dval_snoc, show (10 * dval l + (c.toNat - 48)) / 10 = dval l by omega, show (10 * dval l + (c.toNat - 48)) % 10 = c.toNat - 48 by omega, ih h.left, h3]

theorem dec_dval {l : List UInt8} (h : AllDg l) (hl : Lead l) : decDigits (dval l) = l := by
  obtain ⟨hne, hz⟩ := hl
  match l, hne with
  | c :: t, _ =>
    have hc : IsDg c := h c (by simp)
    have ht : AllDg t := fun x hx => h x (by simp [hx])
    have e : dval (c :: t) = (c.toNat - 48) * 10 ^ t.length + dval t := by
      have := dval_append [c] t
      simpa [dval] using this
    by_cases h0 : c.toNat = 48
    · have hc48 : c = 48 := UInt8.toNat_inj.1 (by simpa using h0)
      subst hc48
      have := hz (by simp)
      have ht0 : t = [] := by simpa using this
      subst ht0
      rw [show dval [48] = 0 from rfl, dec_small (by omega)]; rfl
    · have hh := hc
      unfold IsDg at hc
      rw [e, dec_cut (by omega) (dval_lt ht), pad_of_digits ht, dec_small (by omega), ofNat_dg hh]; rfl

theorem pad_zero : ∀ k, pad k 0 = List.replicate k 48
  | 0 => rfl
  | k + 1 => by rw [pad, show (0 : Nat) / 10 = 0 by omega, pad_zero k, List.replicate_succ']; rfl

theorem dec_len_le {b k : Nat} (h : b < 10 ^ k) (hk : 1 ≤ k) : (decDigits b).length ≤ k := by
  induction k generalizing b with
  | zero => omega
  | succ k ih =>
    by_cases hb : b < 10
    · rw [dec_small hb]; simp
    · rw [Nat.pow_succ] at h
      have hk1 : 1 ≤ k := by
        rcases Nat.eq_zero_or_pos k with h0 | h0
        · subst h0; simp at h; omega
        · exact h0
      rw [dec_big hb]; simp; exact ih (by omega) hk1

/-- pieces of k digits: a number below 10^k, with zeros ahead. -/
theorem pad_eq {k b : Nat} (h : b < 10 ^ k) (hk : 1 ≤ k) : pad k b = List.replicate (k - (decDigits b).length) 48 ++ decDigits b := by
  induction k generalizing b with
  | zero => omega
  | succ k ih =>
    by_cases hb : b < 10
    · rw [dec_small hb, pad, show b / 10 = 0 by omega, show b % 10 = b by omega, pad_zero]; simp
    · have hk1 : 1 ≤ k := by
        rcases Nat.eq_zero_or_pos k with h0 | h0
        · subst h0; simp at h; omega
        · exact h0
      rw [Nat.pow_succ] at h
      rw [pad, ih (by omega) hk1, dec_big hb, ← List.append_assoc]
      simp

/-! ### the numeral of an int -/

/-- the text of an int. -/
def txt (x : Int) : ByteArray := ⟨(itoa x).toArray⟩
theorem txt_list (x : Int) : (txt x).data.toList = itoa x := by simp [txt]

theorem itoa_nat (n : Nat) : itoa (n : Int) = decDigits n := by unfold itoa; rw [if_neg (by omega)]; simp
theorem itoa_negNat {n : Nat} (h : n ≠ 0) : itoa (-(n : Int)) = 45 :: decDigits n := by unfold itoa; rw [if_pos (by omega)]; simp
theorem itoa_neg' {x : Int} (h : x < 0) : itoa x = 45 :: decDigits x.natAbs := by unfold itoa; rw [if_pos h]
theorem itoa_pos' {x : Int} (h : 0 ≤ x) : itoa x = decDigits x.natAbs := by unfold itoa; rw [if_neg (by omega)]; congr 1; omega
theorem itoa_ne (x : Int) : itoa x ≠ [] := by
  by_cases h : x < 0
  · rw [itoa_neg' h]; simp
  · rw [itoa_pos' (by omega)]; exact dec_ne _

theorem dec_not45 (n : Nat) : (decDigits n).head? ≠ some 45 := by
  intro h
  match hd : decDigits n, h with
  | c :: t, h =>
    simp at h
    subst h
    have := dec_all n 45 (by rw [hd]; simp)
    unfold IsDg at this
    simp at this

theorem itoa_inj {x y : Int} (h : itoa x = itoa y) : x = y := by
  by_cases hx : x < 0 <;> by_cases hy : y < 0
  · rw [itoa_neg' hx, itoa_neg' hy] at h
    have := dec_inj (List.cons_inj_right _ |>.1 h)
    omega
  · rw [itoa_neg' hx, itoa_pos' (by omega)] at h
    exact absurd (by rw [← h]; rfl) (dec_not45 y.natAbs)
  · rw [itoa_neg' hy, itoa_pos' (by omega)] at h
    exact absurd (by rw [h]; rfl) (dec_not45 x.natAbs)
  · rw [itoa_pos' (by omega), itoa_pos' (by omega)] at h
    have := dec_inj h
    omega

theorem txt_inj {x y : Int} (h : txt x = txt y) : x = y := itoa_inj (by rw [← txt_list, ← txt_list, h])

/-- what a text is: a minus sign or none, then digits. -/
def Canon (l : List UInt8) : Prop := ∃ x : Int, l = itoa x

theorem canon_pos {l : List UInt8} (h : AllDg l) (hl : Lead l) : l = itoa (dval l : Int) := by rw [itoa_nat, dec_dval h hl]
theorem canon_neg {l : List UInt8} (h : AllDg l) (hl : Lead l) (hz : l ≠ [48]) : 45 :: l = itoa (-(dval l : Int)) := by
  have h0 : dval l ≠ 0 := by
    intro e
    have := dec_dval h hl
    rw [e, dec_small (by omega)] at this
    exact hz this.symm
  rw [itoa_negNat h0, dec_dval h hl]

end Go.Proofs.YtgfgpepdkffhbaaGreatDoor.Kl
