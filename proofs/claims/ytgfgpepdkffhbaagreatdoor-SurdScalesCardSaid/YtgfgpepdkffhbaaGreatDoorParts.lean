/- Terms over the ten radicands of the statements: which are alike, their sums as integers, the reference's Join over them. Plain laws. -/
import Derived.Test.YtgfgpepdkffhbaaGreatDoorJoin
namespace Go.Proofs.YtgfgpepdkffhbaaGreatDoor.Kl
set_option linter.unusedVariables false
set_option linter.unusedSimpArgs false

def radL : List Nat := [1, 2, 3, 8, 6, 12, 10, 50, 30, 1009]
def kf : Nat → Nat
  | 8 => 2
  | 12 => 2
  | 50 => 5
  | _ => 1
def cl : Nat → Nat
  | 8 => 2
  | 12 => 3
  | 50 => 2
  | r => r
/-- the root, bit by bit. -/
def fs (n : Nat) : Nat → Nat → Nat
  | 0, r => r
  | b + 1, r => fs n b (if (r + 2 ^ b) * (r + 2 ^ b) ≤ n then r + 2 ^ b else r)
def pairOk (r s : Nat) : Bool := if cl r = cl s then decide ((kf r * kf s * cl r) * (kf r * kf s * cl r) = r * s) else decide (fs (r * s) 12 0 * fs (r * s) 12 0 < r * s) && decide (r * s < (fs (r * s) 12 0 + 1) * (fs (r * s) 12 0 + 1))
theorem pairs_ok : (radL.all fun r => radL.all fun s => pairOk r s) = true := by decide +kernel
theorem rads_ok : (radL.all fun r => decide (r = kf r * kf r * cl r) && decide (0 < kf r) && decide (kf r ≤ 5) && decide (0 < cl r) && decide (r < 1010) && (decide (cl r ∈ radL))) = true := by decide +kernel
theorem rad_facts {r : Nat} (h : r ∈ radL) : r = kf r * kf r * cl r ∧ 0 < kf r ∧ kf r ≤ 5 ∧ 0 < cl r ∧ r < 1010 ∧ cl r ∈ radL := by
  have := List.all_eq_true.1 rads_ok r h
  simp only [Bool.and_eq_true, decide_eq_true_eq] at this
  obtain ⟨⟨⟨⟨⟨h1, h2⟩, h3⟩, h4⟩, h5⟩, h6⟩ := this
  exact ⟨h1, h2, h3, h4, h5, h6⟩
theorem rad_pos {r : Nat} (h : r ∈ radL) : 0 < r := by
  obtain ⟨h1, h2, _, h4, _⟩ := rad_facts h
  rw [h1]; exact Nat.mul_pos (Nat.mul_pos h2 h2) h4
theorem pair_yes {r s : Nat} (hr : r ∈ radL) (hs : s ∈ radL) (h : cl r = cl s) : isqrt (r * s) = kf r * kf s * cl r ∧ Sq (r * s) := by
  have := List.all_eq_true.1 (List.all_eq_true.1 pairs_ok r hr) s hs
  unfold pairOk at this
  rw [if_pos h, decide_eq_true_eq] at this
  have e : isqrt (r * s) = kf r * kf s * cl r := by rw [← this]; exact isqrt_sq _
  exact ⟨e, by unfold Sq; rw [e]; exact this⟩
theorem pair_no {r s : Nat} (hr : r ∈ radL) (hs : s ∈ radL) (h : cl r ≠ cl s) : ¬ Sq (r * s) := by
  have := List.all_eq_true.1 (List.all_eq_true.1 pairs_ok r hr) s hs
  unfold pairOk at this
  rw [if_neg h, Bool.and_eq_true, decide_eq_true_eq, decide_eq_true_eq] at this
  obtain ⟨h1, h2⟩ := this
  unfold Sq
  rw [isqrt_unique (Nat.le_of_lt h1) h2]
  omega
theorem sq_iff {r s : Nat} (hr : r ∈ radL) (hs : s ∈ radL) : Sq (r * s) ↔ cl r = cl s := by
  constructor
  · intro h
    by_cases e : cl r = cl s
    · exact e
    · exact absurd h (pair_no hr hs e)
  · intro h; exact (pair_yes hr hs h).2

/-- a term's factor, z twelfths of the root of its class. -/
def qz (z : Int) (r : Nat) : Rat := Rat.divInt z ((12 * kf r : Nat) : Int)
def toR (l : List (Int × Nat)) : List (Rat × Nat) := l.map fun p => (qz p.1 p.2, p.2)
theorem qz_fac {z : Int} {r m : Nat} (hr : r ∈ radL) (hm : m ∈ radL) (h : cl r = cl m) : qz z r * facOf r m = qz z m := by
  obtain ⟨e1, k1, _, c1, _⟩ := rad_facts hr
  obtain ⟨e2, k2, _, c2, _⟩ := rad_facts hm
  unfold qz facOf
  rw [(pair_yes hr hm h).1, Rat.divInt_mul_divInt]
  rw [Rat.divInt_eq_divInt_iff (by
    have : 0 < 12 * kf r := by omega
    have := Int.mul_pos (show (0 : Int) < ((12 * kf r : Nat) : Int) by omega) (show (0 : Int) < (m : Int) by have := rad_pos hm; omega)
    omega) (by omega)]
  have e3 : (m : Int) = (kf m : Int) * kf m * cl m := by rw [← Int.natCast_mul, ← Int.natCast_mul, ← e2]
  rw [e3, ← h]
  simp only [Int.natCast_mul]
  grind
theorem qz_add (y z : Int) {r : Nat} (hr : r ∈ radL) : qz y r + qz z r = qz (y + z) r := by
  obtain ⟨_, k1, _⟩ := rad_facts hr
  unfold qz
  rw [Rat.divInt_add_divInt _ _ (by omega) (by omega), Rat.divInt_eq_divInt_iff (by
    have := Int.mul_pos (show (0 : Int) < ((12 * kf r : Nat) : Int) by omega) (show (0 : Int) < ((12 * kf r : Nat) : Int) by omega)
    omega) (by omega)]
  grind
theorem qz_zero (r : Nat) : qz 0 r = 0 := by unfold qz; exact Rat.zero_divInt _
theorem qz_num {z : Int} {r : Nat} (hr : r ∈ radL) : (qz z r).num = 0 ↔ z = 0 := by
  obtain ⟨_, k1, _⟩ := rad_facts hr
  rw [Rat.num_eq_zero]
  unfold qz
  rw [Rat.divInt_ofNat, Rat.mkRat_eq_zero (by omega)]
theorem qz_rs {z : Int} {r : Nat} (hr : r ∈ radL) (hz : z.natAbs < 10 ^ 100) : RS (qz z r) := by
  obtain ⟨_, k1, k5, _⟩ := rad_facts hr
  exact RS.divInt (DL.mono (DL.of_lt (k := 100) hz (by decide)) (by decide)) (DL.two (by omega) (by decide)) (by omega)
theorem fac_rs {r m : Nat} (hr : r ∈ radL) (hm : m ∈ radL) (h : cl r = cl m) : RS (facOf r m) := by
  obtain ⟨e1, k1, k5, c1, b1, _⟩ := rad_facts hr
  obtain ⟨e2, k2, k5', c2, b2, _⟩ := rad_facts hm
  unfold facOf
  rw [(pair_yes hr hm h).1]
  refine RS.divInt (DL.mono (DL.of_lt (k := 6) ?_ (by decide)) (by decide)) (DL.mono (DL.of_lt (k := 4) (by omega) (by decide)) (by decide)) (by have := rad_pos hm; omega)
  rw [Int.natAbs_natCast]
  have h1 : kf r * kf m ≤ 25 := Nat.mul_le_mul k5 k5'
  have h2 : cl r ≤ 1009 := by
    have : cl r ≤ kf r * kf r * cl r := Nat.le_mul_of_pos_left _ (Nat.mul_pos k1 k1)
    omega
  have := Nat.mul_le_mul h1 h2
  omega

/-! the reference's Join, over integers -/
def leastZ (l : List (Int × Nat)) (r : Nat) : Nat → Nat
  | 0 => r
  | j + 1 => match l[j]? with
    | some p => if cl p.2 = cl r ∧ p.2 < leastZ l r j then p.2 else leastZ l r j
    | none => leastZ l r j
def firstZ (l : List (Int × Nat)) (i r : Nat) : Nat → Bool
  | 0 => true
  | j + 1 => match l[j]? with
    | some p => if cl p.2 = cl r then firstZ l i r j && decide (i ≤ j) else firstZ l i r j
    | none => firstZ l i r j
def sumZ (l : List (Int × Nat)) (c : Nat) : Nat → Int
  | 0 => 0
  | j + 1 => match l[j]? with
    | some p => if cl p.2 = c then sumZ l c j + p.1 else sumZ l c j
    | none => sumZ l c j
def RadL (l : List (Int × Nat)) : Prop := ∀ p ∈ l, p.2 ∈ radL
theorem toR_get (l : List (Int × Nat)) (j : Nat) : (toR l)[j]? = (l[j]?).map fun p => (qz p.1 p.2, p.2) := by simp [toR]
theorem toR_len (l : List (Int × Nat)) : (toR l).length = l.length := by simp [toR]
theorem leastZ_eq {l : List (Int × Nat)} (hl : RadL l) {r : Nat} (hr : r ∈ radL) (j : Nat) : leastTo (toR l) r j = leastZ l r j := by
  induction j with
  | zero => rfl
  | succ j ih =>
    unfold leastTo leastZ
    rw [toR_get]
    cases h : l[j]? with
    | none => simpa using ih
    | some p =>
      simp only [Option.map_some]
      rw [ih]
      simp only [sq_iff (hl p (List.mem_of_getElem? h)) hr]
theorem firstZ_eq {l : List (Int × Nat)} (hl : RadL l) {r : Nat} (hr : r ∈ radL) (i j : Nat) : firstTo (toR l) i r j = firstZ l i r j := by
  induction j with
  | zero => rfl
  | succ j ih =>
    unfold firstTo firstZ
    rw [toR_get]
    cases h : l[j]? with
    | none => simpa using ih
    | some p =>
      simp only [Option.map_some]
      rw [ih]
      simp only [sq_iff (hl p (List.mem_of_getElem? h)) hr]
theorem sumZ_eq {l : List (Int × Nat)} (hl : RadL l) {m : Nat} (hm : m ∈ radL) (j : Nat) : sumTo (toR l) m j = qz (sumZ l (cl m) j) m := by
  induction j with
  | zero => exact (qz_zero m).symm
  | succ j ih =>
    unfold sumTo sumZ
    rw [toR_get]
    cases h : l[j]? with
    | none => simpa using ih
    | some p =>
      have hp := hl p (List.mem_of_getElem? h)
      simp only [Option.map_some, sq_iff hp hm]
      split
      · rename_i he
        rw [ih, qz_fac hp hm he, qz_add _ _ hm]
      · exact ih
def wsum (l : List (Int × Nat)) : Nat := (l.map fun p => p.1.natAbs).sum
theorem sumZ_le (l : List (Int × Nat)) (c j : Nat) : (sumZ l c j).natAbs ≤ wsum (l.take j) := by
  induction j with
  | zero => simp [sumZ]
  | succ j ih =>
    unfold sumZ
    cases h : l[j]? with
    | none => 
      rw [List.take_of_length_le (by have := List.getElem?_eq_none_iff.1 h; omega)]
      rw [List.take_of_length_le (by have := List.getElem?_eq_none_iff.1 h; omega)] at ih
      exact ih
    | some p =>
      have e : wsum (l.take (j + 1)) = wsum (l.take j) + p.1.natAbs := by
        unfold wsum
        rw [List.take_add_one, h]
        simp
      rw [e]
      simp only
      split <;> omega
theorem wsum_take (l : List (Int × Nat)) (j : Nat) : wsum (l.take j) ≤ wsum l := by
  have : wsum l = wsum (l.take j) + wsum (l.drop j) := by
    unfold wsum
    rw [← List.sum_append, ← List.map_append, List.take_append_drop]
  omega
theorem wsum_mem {l : List (Int × Nat)} {p : Int × Nat} (h : p ∈ l) : p.1.natAbs ≤ wsum l := by
  induction l with
  | nil => cases h
  | cons q l ih =>
    have e : wsum (q :: l) = q.1.natAbs + wsum l := by simp [wsum]
    rcases List.mem_cons.1 h with h | h
    · subst h; omega
    · have := ih h; omega

theorem allOk_toR {l : List (Int × Nat)} (hl : RadL l) (hn : l.length ≤ 1000) (hw : wsum l < 10 ^ 100) : AllOk (toR l) where
  len := by rw [toR_len]; exact hn
  one p hp := by
    unfold toR at hp
    rw [List.mem_map] at hp
    obtain ⟨q, hq, rfl⟩ := hp
    have hr := hl q hq
    obtain ⟨_, _, _, _, b, _⟩ := rad_facts hr
    exact ⟨qz_rs hr (Nat.lt_of_le_of_lt (wsum_mem hq) hw), DL.mono (DL.of_lt (k := 4) (by simp only [Int.natAbs_natCast]; omega) (by decide)) (by decide), rad_pos hr⟩
  fac p hp q hq hs := by
    unfold toR at hp hq
    rw [List.mem_map] at hp hq
    obtain ⟨p', hp', rfl⟩ := hp
    obtain ⟨q', hq', rfl⟩ := hq
    have hr := hl p' hp'
    have hm := hl q' hq'
    have he := (sq_iff hr hm).1 hs
    simp only
    refine ⟨fac_rs hr hm he, ?_⟩
    rw [qz_fac hr hm he]
    exact qz_rs hm (Nat.lt_of_le_of_lt (wsum_mem hp') hw)
  sum q hq j := by
    unfold toR at hq
    rw [List.mem_map] at hq
    obtain ⟨q', hq', rfl⟩ := hq
    have hm := hl q' hq'
    rw [sumZ_eq hl hm]
    exact qz_rs hm (Nat.lt_of_le_of_lt (Nat.le_trans (sumZ_le _ _ _) (wsum_take _ _)) hw)

def insZTo (l : List (Int × Nat)) (x : Int × Nat) : Nat → List (Int × Nat) × Bool
  | 0 => ([], false)
  | k + 1 => match l[k]? with
    | some p => if (insZTo l x k).2 = false ∧ x.2 < p.2 then ((insZTo l x k).1 ++ [x] ++ [p], true) else ((insZTo l x k).1 ++ [p], (insZTo l x k).2)
    | none => insZTo l x k
def insZ : List (Int × Nat) → Int × Nat → List (Int × Nat)
  | [], x => [x]
  | p :: l, x => if x.2 < p.2 then x :: p :: l else p :: insZ l x
/-- insert, as a recursion. -/
def insR : List (Rat × Nat) → Rat × Nat → List (Rat × Nat)
  | [], x => [x]
  | p :: l, x => if x.2 < p.2 then x :: p :: l else p :: insR l x
theorem insTo_cons (q : Rat × Nat) (l : List (Rat × Nat)) (x : Rat × Nat) (k : Nat) : insTo (q :: l) x (k + 1) = if x.2 < q.2 then (x :: q :: l.take k, true) else (q :: (insTo l x k).1, (insTo l x k).2) := by
  induction k with
  | zero =>
    unfold insTo
    simp only [List.getElem?_cons_zero, insTo]
    by_cases h : x.2 < q.2
    · simp [h]
    · simp [h]
  | succ k ih =>
    rw [insTo]
    simp only [List.getElem?_cons_succ]
    rw [ih]
    cases hk : l[k]? with
    | none =>
      simp only
      have e : insTo l x (k + 1) = insTo l x k := by rw [insTo, hk]
      rw [e, List.take_of_length_le (show l.length ≤ k + 1 by have := List.getElem?_eq_none_iff.1 hk; omega), List.take_of_length_le (show l.length ≤ k by have := List.getElem?_eq_none_iff.1 hk; omega)]
    | some p =>
      have e : insTo l x (k + 1) = if (insTo l x k).2 = false ∧ x.2 < p.2 then ((insTo l x k).1 ++ [x] ++ [p], true) else ((insTo l x k).1 ++ [p], (insTo l x k).2) := by rw [insTo, hk]
      simp only
      rw [e]
      by_cases h : x.2 < q.2
      · rw [if_pos h, if_pos h, List.take_add_one, hk]
        simp
      · rw [if_neg h, if_neg h]
        simp only
        split
        · simp
        · simp
theorem insL_eq (l : List (Rat × Nat)) (x : Rat × Nat) : insL l x = insR l x := by
  induction l with
  | nil => rfl
  | cons q l ih =>
    unfold insL insR
    rw [List.length_cons, insTo_cons]
    by_cases h : x.2 < q.2
    · simp [h]
    · simp only [h, if_false]
      unfold insL at ih
      rw [← ih]
      split <;> simp
theorem insR_toR (l : List (Int × Nat)) (x : Int × Nat) : insR (toR l) (qz x.1 x.2, x.2) = toR (insZ l x) := by
  induction l with
  | nil => rfl
  | cons p l ih =>
    show (if x.2 < p.2 then _ else _) = toR (if x.2 < p.2 then _ else _)
    split
    · rfl
    · show (qz p.1 p.2, p.2) :: insR (toR l) (qz x.1 x.2, x.2) = (qz p.1 p.2, p.2) :: toR (insZ l x)
      rw [ih]
def outZ (l : List (Int × Nat)) : Nat → List (Int × Nat)
  | 0 => []
  | i + 1 => match l[i]? with
    | some p => if firstZ l i p.2 l.length = true ∧ sumZ l (cl p.2) l.length ≠ 0 then insZ (outZ l i) (sumZ l (cl p.2) l.length, leastZ l p.2 l.length) else outZ l i
    | none => outZ l i
def joinZ (l : List (Int × Nat)) : List (Int × Nat) := outZ l l.length

theorem leastZ_mem {l : List (Int × Nat)} {r : Nat} (hr : ∃ q ∈ l, q.2 = r) (j : Nat) : ∃ q ∈ l, q.2 = leastZ l r j ∧ cl q.2 = cl r := by
  induction j with
  | zero => obtain ⟨q, h1, h2⟩ := hr; exact ⟨q, h1, h2, by rw [h2]⟩
  | succ j ih =>
    unfold leastZ
    split
    · rename_i p hp
      split
      · rename_i h
        exact ⟨p, List.mem_of_getElem? hp, rfl, h.1⟩
      · exact ih
    · exact ih
theorem leastZ_cl {l : List (Int × Nat)} {r : Nat} (hr : ∃ q ∈ l, q.2 = r) (j : Nat) : cl (leastZ l r j) = cl r := by
  obtain ⟨q, _, h2, h3⟩ := leastZ_mem hr j
  rw [← h2]; exact h3
theorem outZ_eq {l : List (Int × Nat)} (hl : RadL l) (i : Nat) : outTo (toR l) i = toR (outZ l i) := by
  induction i with
  | zero => rfl
  | succ i ih =>
    unfold outTo outZ
    rw [toR_get]
    cases h : l[i]? with
    | none => simpa using ih
    | some p =>
      have hp := hl p (List.mem_of_getElem? h)
      have hm := leastZ_mem ⟨p, List.mem_of_getElem? h, rfl⟩ l.length
      obtain ⟨q, hq, e1, e2⟩ := hm
      have hmr : leastZ l p.2 l.length ∈ radL := by rw [← e1]; exact hl q hq
      have hcl : cl (leastZ l p.2 l.length) = cl p.2 := by rw [← e1]; exact e2
      simp only [Option.map_some]
      rw [toR_len, firstZ_eq hl hp, leastZ_eq hl hp, sumZ_eq hl hmr, hcl, ih]
      have hz := qz_num (z := sumZ l (cl p.2) l.length) hmr
      by_cases hc : firstZ l i p.2 l.length = true ∧ sumZ l (cl p.2) l.length ≠ 0
      · rw [if_pos hc, if_pos ⟨hc.1, fun h => hc.2 (hz.1 h)⟩, insL_eq]
        exact insR_toR (outZ l i) (sumZ l (cl p.2) l.length, leastZ l p.2 l.length)
      · rw [if_neg hc, if_neg (fun h => hc ⟨h.1, fun h' => h.2 (hz.2 h')⟩)]
theorem joinZ_eq {l : List (Int × Nat)} (hl : RadL l) : outTo (toR l) (toR l).length = toR (joinZ l) := by rw [toR_len]; exact outZ_eq hl _

/-! what the Join holds -/
def Srt (l : List (Int × Nat)) : Prop := l.Pairwise fun p q => p.2 < q.2
theorem insZ_mem {l : List (Int × Nat)} {x p : Int × Nat} : p ∈ insZ l x ↔ p = x ∨ p ∈ l := by
  induction l with
  | nil => simp [insZ]
  | cons q l ih =>
    unfold insZ
    split
    · simp
    · simp [ih]
      constructor
      · rintro (h | h | h) <;> simp [h]
      · rintro (h | h | h) <;> simp [h]
theorem insZ_srt {l : List (Int × Nat)} {x : Int × Nat} (h : Srt l) (hx : ∀ p ∈ l, p.2 ≠ x.2) : Srt (insZ l x) := by
  induction l with
  | nil => simp [insZ, Srt]
  | cons q l ih =>
    unfold Srt at h ih ⊢
    rw [List.pairwise_cons] at h
    unfold insZ
    split
    · rename_i hlt
      rw [List.pairwise_cons, List.pairwise_cons]
      refine ⟨fun p hp => ?_, h.1, h.2⟩
      rcases List.mem_cons.1 hp with e | hp
      · rw [e]; exact hlt
      · have := h.1 p hp; omega
    · rename_i hge
      rw [List.pairwise_cons]
      refine ⟨fun p hp => ?_, ih h.2 (fun p hp => hx p (List.mem_cons_of_mem _ hp))⟩
      rcases insZ_mem.1 hp with e | hp
      · rw [e]; have := hx q (List.mem_cons_self ..); omega
      · exact h.1 p hp

/-- firstZ: nothing alike stands ahead of i. -/
theorem firstZ_iff (l : List (Int × Nat)) (i r j : Nat) : firstZ l i r j = true ↔ ∀ k p, k < j → l[k]? = some p → cl p.2 = cl r → i ≤ k := by
  induction j with
  | zero => simp [firstZ]
  | succ j ih =>
    have key : ∀ (Q : Prop), (firstZ l i r j = true ∧ Q ↔ (∀ k p, k < j → l[k]? = some p → cl p.2 = cl r → i ≤ k) ∧ Q) := fun Q => by rw [ih]
    unfold firstZ
    cases h : l[j]? with
    | none =>
      simp only
      rw [ih]
      constructor
      · intro hh k p hk hp
        rcases Nat.lt_or_eq_of_le (Nat.le_of_lt_succ hk) with h1 | h1
        · exact hh k p h1 hp
        · subst h1; rw [h] at hp; cases hp
      · intro hh k p hk hp
        exact hh k p (Nat.lt_succ_of_lt hk) hp
    | some q =>
      simp only
      by_cases he : cl q.2 = cl r
      · rw [if_pos he, Bool.and_eq_true, decide_eq_true_eq, ih]
        constructor
        · rintro ⟨hh, hij⟩ k p hk hp hc
          rcases Nat.lt_or_eq_of_le (Nat.le_of_lt_succ hk) with h1 | h1
          · exact hh k p h1 hp hc
          · subst h1; exact hij
        · intro hh
          exact ⟨fun k p hk hp hc => hh k p (Nat.lt_succ_of_lt hk) hp hc, hh j q (Nat.lt_succ_self _) h he⟩
      · rw [if_neg he, ih]
        constructor
        · intro hh k p hk hp hc
          rcases Nat.lt_or_eq_of_le (Nat.le_of_lt_succ hk) with h1 | h1
          · exact hh k p h1 hp hc
          · subst h1; rw [h] at hp; cases hp; exact absurd hc he
        · intro hh k p hk hp hc
          exact hh k p (Nat.lt_succ_of_lt hk) hp hc
/-- leastZ: the least of all that are alike. -/
theorem leastZ_le (l : List (Int × Nat)) (r j : Nat) : leastZ l r j ≤ r ∧ ∀ k p, k < j → l[k]? = some p → cl p.2 = cl r → leastZ l r j ≤ p.2 := by
  induction j with
  | zero => exact ⟨Nat.le_refl _, fun k p hk => by omega⟩
  | succ j ih =>
    obtain ⟨h1, h2⟩ := ih
    unfold leastZ
    cases h : l[j]? with
    | none =>
      simp only
      refine ⟨h1, fun k p hk hp hc => ?_⟩
      rcases Nat.lt_or_eq_of_le (Nat.le_of_lt_succ hk) with h3 | h3
      · exact h2 k p h3 hp hc
      · subst h3; rw [h] at hp; cases hp
    | some q =>
      simp only
      split
      · rename_i hq
        refine ⟨by omega, fun k p hk hp hc => ?_⟩
        rcases Nat.lt_or_eq_of_le (Nat.le_of_lt_succ hk) with h3 | h3
        · have := h2 k p h3 hp hc; omega
        · subst h3; rw [h] at hp; cases hp; exact Nat.le_refl _
      · rename_i hq
        refine ⟨h1, fun k p hk hp hc => ?_⟩
        rcases Nat.lt_or_eq_of_le (Nat.le_of_lt_succ hk) with h3 | h3
        · exact h2 k p h3 hp hc
        · subst h3; rw [h] at hp; cases hp
          have : ¬ q.2 < leastZ l r k := fun hh => hq ⟨hc, hh⟩
          omega
def Least (l : List (Int × Nat)) (m : Nat) : Prop := (∃ q ∈ l, q.2 = m) ∧ ∀ q ∈ l, cl q.2 = cl m → m ≤ q.2
theorem leastZ_is {l : List (Int × Nat)} {r : Nat} (hr : ∃ q ∈ l, q.2 = r) : Least l (leastZ l r l.length) := by
  obtain ⟨q, h1, h2, h3⟩ := leastZ_mem hr l.length
  refine ⟨⟨q, h1, h2⟩, fun p hp hc => ?_⟩
  obtain ⟨k, hk, e⟩ := List.mem_iff_getElem.1 hp
  exact (leastZ_le l r l.length).2 k p hk (by rw [List.getElem?_eq_getElem hk, e]) (by rw [hc, leastZ_cl hr])
theorem least_unique {l : List (Int × Nat)} {m n : Nat} (h : Least l m) (k : Least l n) (e : cl m = cl n) : m = n := by
  obtain ⟨⟨q, hq, rfl⟩, h2⟩ := h
  obtain ⟨⟨p, hp, rfl⟩, k2⟩ := k
  have := h2 p hp e.symm
  have := k2 q hq e
  omega
theorem outZ_spec (l : List (Int × Nat)) (i : Nat) (hi : i ≤ l.length) : Srt (outZ l i) ∧ ∀ p, p ∈ outZ l i ↔ (p.1 ≠ 0 ∧ Least l p.2 ∧ p.1 = sumZ l (cl p.2) l.length ∧ ∃ k q, k < i ∧ l[k]? = some q ∧ cl q.2 = cl p.2) := by
  induction i with
  | zero => exact ⟨List.Pairwise.nil, fun p => by simp [outZ]⟩
  | succ i ih =>
    obtain ⟨h1, h2⟩ := ih (by omega)
    obtain ⟨q, hq⟩ : ∃ q, l[i]? = some q := ⟨l[i]'(by omega), List.getElem?_eq_getElem _⟩
    have hqm : ∃ q' ∈ l, q'.2 = q.2 := ⟨q, List.mem_of_getElem? hq, rfl⟩
    have hcl := leastZ_cl hqm l.length
    have hls := leastZ_is hqm
    have hout : outZ l (i + 1) = if firstZ l i q.2 l.length = true ∧ sumZ l (cl q.2) l.length ≠ 0 then insZ (outZ l i) (sumZ l (cl q.2) l.length, leastZ l q.2 l.length) else outZ l i := by
      rw [outZ, hq]
    rw [hout]
    have hf := firstZ_iff l i q.2 l.length
    by_cases hc : firstZ l i q.2 l.length = true ∧ sumZ l (cl q.2) l.length ≠ 0
    · rw [if_pos hc]
      have hf1 := hf.1 hc.1
      refine ⟨insZ_srt h1 (fun p hp e => ?_), fun p => ?_⟩
      · obtain ⟨_, _, _, k, q', hk, hq', he⟩ := (h2 p).1 hp
        have := hf1 k q' (by omega) hq' (by rw [he, e, hcl])
        omega
      · rw [insZ_mem]
        constructor
        · rintro (e | hp)
          · rw [e]
            simp only
            rw [hcl]
            exact ⟨hc.2, hls, rfl, i, q, by omega, hq, rfl⟩
          · obtain ⟨a1, a2, a3, k, q', hk, hq', he⟩ := (h2 p).1 hp
            exact ⟨a1, a2, a3, k, q', by omega, hq', he⟩
        · rintro ⟨a1, a2, a3, k, q', hk, hq', he⟩
          rcases Nat.lt_or_eq_of_le (Nat.le_of_lt_succ hk) with h3 | h3
          · exact Or.inr ((h2 p).2 ⟨a1, a2, a3, k, q', h3, hq', he⟩)
          · subst h3
            rw [hq] at hq'; cases hq'
            left
            have hm := least_unique a2 hls (by rw [hcl, he])
            exact Prod.ext (by rw [a3, he]) hm
    · rw [if_neg hc]
      refine ⟨h1, fun p => ?_⟩
      rw [h2]
      constructor
      · rintro ⟨a1, a2, a3, k, q', hk, hq', he⟩
        exact ⟨a1, a2, a3, k, q', by omega, hq', he⟩
      · rintro ⟨a1, a2, a3, k, q', hk, hq', he⟩
        refine ⟨a1, a2, a3, ?_⟩
        rcases Nat.lt_or_eq_of_le (Nat.le_of_lt_succ hk) with h3 | h3
        · exact ⟨k, q', h3, hq', he⟩
        · subst h3
          rw [hq] at hq'; cases hq'
          have hns : ¬ firstZ l k q.2 l.length = true := fun h => hc ⟨h, by rw [he, ← a3]; exact a1⟩
          rw [hf] at hns
          simp only [Classical.not_forall, Nat.not_le] at hns
          obtain ⟨k', q', hk', hq', he', hlt⟩ := hns
          exact ⟨k', q', hlt, hq', by rw [he', he]⟩
theorem joinZ_srt (l : List (Int × Nat)) : Srt (joinZ l) := (outZ_spec l l.length (Nat.le_refl _)).1
theorem joinZ_mem (l : List (Int × Nat)) (p : Int × Nat) : p ∈ joinZ l ↔ (p.1 ≠ 0 ∧ Least l p.2 ∧ p.1 = sumZ l (cl p.2) l.length) := by
  rw [joinZ, (outZ_spec l l.length (Nat.le_refl _)).2]
  constructor
  · rintro ⟨a, b, c, _⟩; exact ⟨a, b, c⟩
  · rintro ⟨a, b, c⟩
    have b' := b
    obtain ⟨⟨q, hq, e⟩, _⟩ := b'
    obtain ⟨k, hk, e'⟩ := List.mem_iff_getElem.1 hq
    exact ⟨a, b, c, k, q, hk, by rw [List.getElem?_eq_getElem hk, e'], by rw [e]⟩
theorem joinZ_rad {l : List (Int × Nat)} (hl : RadL l) : RadL (joinZ l) := fun p hp => by
  obtain ⟨_, ⟨⟨q, hq, e⟩, _⟩, _⟩ := (joinZ_mem l p).1 hp
  rw [← e]; exact hl q hq
theorem joinZ_le {l : List (Int × Nat)} {p : Int × Nat} (h : p ∈ joinZ l) : p.1.natAbs ≤ wsum l := by
  obtain ⟨_, _, h3⟩ := (joinZ_mem l p).1 h
  rw [h3]
  exact Nat.le_trans (sumZ_le _ _ _) (wsum_take _ _)
theorem outZ_len (l : List (Int × Nat)) (hl : RadL l) (i : Nat) : (outZ l i).length ≤ i := by
  have := outTo_le (toR l) i
  rw [outZ_eq hl, toR_len] at this
  exact this
theorem wsum_le {l : List (Int × Nat)} {M : Nat} (h : ∀ p ∈ l, p.1.natAbs ≤ M) : wsum l ≤ l.length * M := by
  induction l with
  | nil => simp [wsum]
  | cons p l ih =>
    have e : wsum (p :: l) = p.1.natAbs + wsum l := by simp [wsum]
    have h1 := h p (List.mem_cons_self ..)
    have h2 := ih (fun q hq => h q (List.mem_cons_of_mem _ hq))
    rw [e, List.length_cons, Nat.add_mul]
    omega
theorem wsum_append (a b : List (Int × Nat)) : wsum (a ++ b) = wsum a + wsum b := by simp [wsum]

/-- two terms of a Join are not alike. -/
theorem joinZ_cl {l : List (Int × Nat)} {p q : Int × Nat} (hp : p ∈ joinZ l) (hq : q ∈ joinZ l) (h : cl p.2 = cl q.2) : p = q := by
  obtain ⟨_, a2, a3⟩ := (joinZ_mem l p).1 hp
  obtain ⟨_, b2, b3⟩ := (joinZ_mem l q).1 hq
  have := least_unique a2 b2 h
  exact Prod.ext (by rw [a3, b3, h]) this
theorem rad_one {r : Nat} (hr : r ∈ radL) (h : Sq r) : r = 1 := by
  have h1 : (1 : Nat) ∈ radL := by decide
  have h2 : Sq (r * 1) := by rw [Nat.mul_one]; exact h
  have h3 := (sq_iff hr h1).1 h2
  obtain ⟨e, k1, k2, _⟩ := rad_facts hr
  have h4 : cl 1 = 1 := rfl
  rw [h4] at h3
  unfold radL at hr
  simp only [List.mem_cons, List.not_mem_nil, or_false] at hr
  rcases hr with rfl | rfl | rfl | rfl | rfl | rfl | rfl | rfl | rfl | rfl <;> first | rfl | (exact absurd h3 (by decide))
theorem joinZ_sound {l : List (Int × Nat)} (hl : RadL l) (hw : wsum l < 10 ^ 100) : Sound (toR (joinZ l)) := by
  refine ⟨fun p hp => ?_, fun i j p q hij hi hj => ?_⟩
  · unfold toR at hp
    rw [List.mem_map] at hp
    obtain ⟨q, hq, rfl⟩ := hp
    have hr := joinZ_rad hl q hq
    obtain ⟨_, _, _, _, b, _⟩ := rad_facts hr
    exact ⟨qz_rs hr (Nat.lt_of_le_of_lt (joinZ_le hq) hw), fun h => ((joinZ_mem l q).1 hq).1 ((qz_num hr).1 h), DL.mono (DL.of_lt (k := 4) (by simp only [Int.natAbs_natCast]; omega) (by decide)) (by decide), rad_pos hr, fun h => rad_one hr h⟩
  · rw [toR_get] at hi hj
    obtain ⟨p', hp', rfl⟩ := Option.map_eq_some_iff.1 hi
    obtain ⟨q', hq', rfl⟩ := Option.map_eq_some_iff.1 hj
    have hs := joinZ_srt l
    unfold Srt at hs
    rw [List.pairwise_iff_getElem] at hs
    obtain ⟨li, ei⟩ := List.getElem?_eq_some_iff.1 hp'
    obtain ⟨lj, ej⟩ := List.getElem?_eq_some_iff.1 hq'
    have hlt := hs i j li lj hij
    rw [ei, ej] at hlt
    have mp := List.mem_of_getElem? hp'
    have mq := List.mem_of_getElem? hq'
    refine ⟨hlt, fun h => ?_⟩
    have := joinZ_cl mp mq ((sq_iff (joinZ_rad hl p' mp) (joinZ_rad hl q' mq)).1 h)
    rw [this] at hlt
    omega

/-! the lists of the statements -/
def denOf (d : Nat) : Nat := [1, 2, 3, 4, 6, 12].getD (d % 6) 1
def radOf (r : Nat) : Nat := radL.getD (r % 10) 1
def partZ (p : Int × Nat × Nat) : Int × Nat := (p.1.tmod 41 * ((12 / denOf p.2.1 : Nat) : Int) * (kf (radOf p.2.2) : Int), radOf p.2.2)
def makeZ (l : List (Int × Nat × Nat)) : Nat → List (Int × Nat)
  | 0 => []
  | i + 1 => match l[i]? with
    | some p => if p.1.tmod 41 = 0 then makeZ l i else joinZ (makeZ l i ++ [partZ p])
    | none => makeZ l i
theorem radOf_mem (r : Nat) : radOf r ∈ radL := by
  unfold radOf
  have h : r % 10 < radL.length := by show r % 10 < 10; omega
  rw [List.getD_eq_getElem?_getD, List.getElem?_eq_getElem h]
  exact List.getElem_mem h
theorem den_facts (d : Nat) : 0 < denOf d ∧ 12 / denOf d * denOf d = 12 ∧ denOf d ≤ 12 := by
  unfold denOf
  have h : d % 6 < 6 := by omega
  generalize d % 6 = k at h
  match k, h with
  | 0, _ => decide
  | 1, _ => decide
  | 2, _ => decide
  | 3, _ => decide
  | 4, _ => decide
  | 5, _ => decide
theorem partZ_q (p : Int × Nat × Nat) : qz (partZ p).1 (partZ p).2 = Rat.divInt (p.1.tmod 41) (denOf p.2.1 : Int) := by
  obtain ⟨d1, d2, d3⟩ := den_facts p.2.1
  obtain ⟨_, k1, _⟩ := rad_facts (radOf_mem p.2.2)
  unfold qz partZ
  simp only
  rw [Rat.divInt_eq_divInt_iff (by omega) (by omega)]
  have e : ((12 : Nat) : Int) = ((12 / denOf p.2.1 : Nat) : Int) * (denOf p.2.1 : Int) := by rw [← Int.natCast_mul, d2]
  rw [Int.natCast_mul, e]
  grind
theorem tmod41 (x : Int) : (x.tmod 41).natAbs ≤ 40 := by
  rw [Int.natAbs_tmod, show (41 : Int).natAbs = 41 from rfl]
  omega
theorem partZ_le (p : Int × Nat × Nat) : (partZ p).1.natAbs ≤ 2400 := by
  obtain ⟨d1, d2, d3⟩ := den_facts p.2.1
  obtain ⟨_, _, k5, _⟩ := rad_facts (radOf_mem p.2.2)
  unfold partZ
  simp only
  rw [Int.natAbs_mul, Int.natAbs_mul, Int.natAbs_natCast, Int.natAbs_natCast]
  have h1 := tmod41 p.1
  have h2 : 12 / denOf p.2.1 ≤ 12 := Nat.div_le_self _ _
  have := Nat.mul_le_mul (Nat.mul_le_mul h1 h2) k5
  omega
/-- what every such list is. -/
structure MadeOk (i : Nat) (m : List (Int × Nat)) : Prop where
  rad : RadL m
  len : m.length ≤ i
  le : ∀ p ∈ m, p.1.natAbs ≤ 2400 * 7 ^ i
  join : ∃ l, m = joinZ l ∧ RadL l ∧ wsum l < 10 ^ 100
theorem makeZ_ok (l : List (Int × Nat × Nat)) (i : Nat) (hi : i ≤ 6) : MadeOk i (makeZ l i) := by
  induction i with
  | zero => exact ⟨(fun p hp => by cases hp), Nat.le_refl _, (fun p hp => by cases hp), [], rfl, (fun p hp => by cases hp), by decide⟩
  | succ i ih =>
    have h := ih (by omega)
    have h7 : 7 ^ i ≤ 7 ^ (i + 1) := Nat.pow_le_pow_right (by decide) (by omega)
    have weak : MadeOk (i + 1) (makeZ l i) := ⟨h.rad, by have := h.len; omega, (fun p hp => Nat.le_trans (h.le p hp) (Nat.mul_le_mul_left _ h7)), h.join⟩
    unfold makeZ
    split
    · rename_i p hp
      split
      · exact weak
      · have hr : RadL (makeZ l i ++ [partZ p]) := fun q hq => by
          rw [List.mem_append, List.mem_singleton] at hq
          rcases hq with hq | hq
          · exact h.rad q hq
          · rw [hq]; exact radOf_mem p.2.2
        have hw : wsum (makeZ l i ++ [partZ p]) ≤ 2400 * 7 ^ (i + 1) := by
          rw [wsum_append]
          have h1 := wsum_le h.le
          have h2 := partZ_le p
          have h3 : wsum [partZ p] = (partZ p).1.natAbs := by simp [wsum]
          have h4 := Nat.mul_le_mul_right (2400 * 7 ^ i) (Nat.le_trans h.len (show i ≤ 6 by omega))
          have h5 : 1 ≤ 7 ^ i := Nat.one_le_pow _ _ (by decide)
          rw [Nat.pow_succ]
          omega
        have hb : 2400 * 7 ^ (i + 1) < 10 ^ 100 := by
          have : 7 ^ (i + 1) ≤ 7 ^ 6 := Nat.pow_le_pow_right (by decide) hi
          have h2 : 2400 * 7 ^ 6 < 10 ^ 100 := by decide
          have := Nat.mul_le_mul_left 2400 this
          omega
        refine ⟨joinZ_rad hr, ?_, fun q hq => Nat.le_trans (joinZ_le hq) hw, _, rfl, hr, by omega⟩
        have := outZ_len _ hr (makeZ l i ++ [partZ p]).length
        rw [List.length_append, List.length_singleton] at this
        have h6 := h.len
        unfold joinZ
        rw [List.length_append, List.length_singleton]
        omega
    · exact weak
theorem MadeOk.sound {i : Nat} {m : List (Int × Nat)} (h : MadeOk i m) : Sound (toR m) := by
  obtain ⟨l, rfl, h1, h2⟩ := h.join
  exact joinZ_sound h1 h2
end Go.Proofs.YtgfgpepdkffhbaaGreatDoor.Kl
