/- integer.Compare. -/
import Derived.Test.YtgfgpepdkffhbaaGreatDoorSign
import Derived.Test.YtgfgpepdkffhbaaGreatDoorBound
namespace Go.Proofs.YtgfgpepdkffhbaaGreatDoor.Kl
open Go.RowKit Go.Shelf
set_option linter.unusedVariables false
set_option linter.unusedSimpArgs false

theorem dval_cons (c : UInt8) (t : List UInt8) : dval (c :: t) = (c.toNat - 48) * 10 ^ t.length + dval t := by
  have h := dval_append [c] t
  rw [List.singleton_append] at h
  rw [h]
  simp [dval]

theorem cmpBytes_dval : ∀ (a b : List UInt8), AllDg a → AllDg b → a.length = b.length → Lib.compareBytes a b = cmpN (dval a) (dval b)
  | [], [], _, _, _ => by simp [Lib.compareBytes, cmpN]
  | [], _ :: _, _, _, h => by simp at h
  | _ :: _, [], _, _, h => by simp at h
  | c :: s, d :: t, hs, ht, h => by
    have hl : s.length = t.length := by simpa using h
    have hs' : AllDg s := fun x hx => hs x (List.mem_cons_of_mem _ hx)
    have ht' : AllDg t := fun x hx => ht x (List.mem_cons_of_mem _ hx)
    have hc := hs c (List.mem_cons_self ..)
    have hd := ht d (List.mem_cons_self ..)
    have ih := cmpBytes_dval s t hs' ht' hl
    have b1 := dval_lt hs'
    have b2 := dval_lt ht'
    unfold IsDg at hc hd
    rw [dval_cons, dval_cons, hl]
    rw [hl] at b1
    unfold Lib.compareBytes
    obtain ⟨P, hP⟩ : ∃ P, 10 ^ t.length = P := ⟨_, rfl⟩
    rw [hP] at b1 b2 ⊢
    by_cases h1 : c < d
    · have h1' : c.toNat < d.toNat := h1
      have : (c.toNat - 48 + 1) * P ≤ (d.toNat - 48) * P := Nat.mul_le_mul_right _ (by omega)
      rw [Nat.succ_mul] at this
      rw [if_pos h1]; unfold cmpN; rw [if_pos (by omega)]
    · by_cases h2 : d < c
      · have h2' : d.toNat < c.toNat := h2
        have : (d.toNat - 48 + 1) * P ≤ (c.toNat - 48) * P := Nat.mul_le_mul_right _ (by omega)
        rw [Nat.succ_mul] at this
        rw [if_neg h1, if_pos h2]; unfold cmpN; rw [if_neg (by omega), if_neg (by omega)]
      · have h1' : ¬ c.toNat < d.toNat := h1
        have h2' : ¬ d.toNat < c.toNat := h2
        have he : c.toNat = d.toNat := by omega
        rw [if_neg h1, if_neg h2, ih, he]
        unfold cmpN
        by_cases h3 : dval s < dval t
        · rw [if_pos h3, if_pos (by omega)]
        · by_cases h4 : dval s = dval t
          · rw [if_neg h3, if_pos h4, if_neg (by omega), if_pos (by omega)]
          · rw [if_neg h3, if_neg h4, if_neg (by omega), if_neg (by omega)]

theorem dec_lt_of_len {u v : Nat} (h : (Lib.decDigits u).length < (Lib.decDigits v).length) : u < v := by
  apply Nat.lt_of_not_le
  intro hle
  have h1 := dec_lt u
  have h2 : 1 ≤ (Lib.decDigits u).length := List.length_pos_iff.2 (dec_ne u)
  have := dec_len_le (Nat.lt_of_le_of_lt hle h1) h2
  omega

/-- the order of integers, as an int. -/
def cmpI (x y : Int) : Int := if x < y then -1 else if x = y then 0 else 1

theorem cmpI_sign_lt {x y : Int} (h : x.sign < y.sign) : cmpI x y = -1 := by
  have : x < y := by
    rcases Int.lt_trichotomy x 0 with h1 | h1 | h1 <;> rcases Int.lt_trichotomy y 0 with h2 | h2 | h2 <;> simp_all [Int.sign_eq_neg_one_of_neg, Int.sign_eq_one_of_pos] <;> omega
  unfold cmpI; rw [if_pos this]
theorem cmpI_sign_gt {x y : Int} (h : y.sign < x.sign) : cmpI x y = 1 := by
  have : y < x := by
    rcases Int.lt_trichotomy x 0 with h1 | h1 | h1 <;> rcases Int.lt_trichotomy y 0 with h2 | h2 | h2 <;> simp_all [Int.sign_eq_neg_one_of_neg, Int.sign_eq_one_of_pos] <;> omega
  unfold cmpI; rw [if_neg (by omega), if_neg (by omega)]
theorem cmpI_same {x y : Int} (h : x.sign = y.sign) : cmpI x y = x.sign * cmpN x.natAbs y.natAbs := by
  unfold cmpI cmpN
  rcases Int.lt_trichotomy x 0 with h1 | h1 | h1 <;> rcases Int.lt_trichotomy y 0 with h2 | h2 | h2 <;> simp_all [Int.sign_eq_neg_one_of_neg, Int.sign_eq_one_of_pos]
  · split <;> split <;> (try split) <;> (try split) <;> omega
  · split <;> split <;> (try split) <;> (try split) <;> omega

theorem cmp_short {u v : Nat} (h : (Lib.itoa (u : Int)).length < (Lib.itoa (v : Int)).length) : cmpN u v = -1 := by
  rw [itoa_nat, itoa_nat] at h
  unfold cmpN; rw [if_pos (dec_lt_of_len h)]
theorem cmp_long {u v : Nat} (h : (Lib.itoa (v : Int)).length < (Lib.itoa (u : Int)).length) : cmpN u v = 1 := by
  rw [itoa_nat, itoa_nat] at h
  have := dec_lt_of_len h
  unfold cmpN; rw [if_neg (by omega), if_neg (by omega)]
theorem cmp_even {u v : Nat} (h : (Lib.itoa (u : Int)).length = (Lib.itoa (v : Int)).length) : Lib.compareBytes (Lib.itoa (u : Int)) (Lib.itoa (v : Int)) = cmpN u v := by
  rw [itoa_nat, itoa_nat] at h ⊢
  rw [cmpBytes_dval _ _ (dec_all u) (dec_all v) h, dval_dec, dval_dec]
theorem cmpN_cases (u v : Nat) : cmpN u v = -1 ∨ cmpN u v = 0 ∨ cmpN u v = 1 := by
  unfold cmpN; split
  · simp
  · split <;> simp

theorem wrap_sign (x : Int) : wrap64 (-x.sign) = -x.sign := by
  apply IntWalk.wrap64_in
  rcases Int.lt_trichotomy x 0 with h | h | h
  · rw [Int.sign_eq_neg_one_of_neg h]; decide
  · rw [h]; decide
  · rw [Int.sign_eq_one_of_pos h]; decide

theorem wrap_signs (x : Int) {c : Int} (hc : c = -1 ∨ c = 0 ∨ c = 1) : wrap64 (x.sign * c) = x.sign * c := by
  apply IntWalk.wrap64_in
  rcases Int.lt_trichotomy x 0 with h | h | h
  · rw [Int.sign_eq_neg_one_of_neg h]; omega
  · rw [h]; simp
  · rw [Int.sign_eq_one_of_pos h]; omega

theorem compare_any (x y : Int) (w : World) (hx : (Lib.itoa (x.natAbs : Int)).length ≤ 4294967296) (hy : (Lib.itoa (y.natAbs : Int)).length ≤ 4294967296) :
    Calls Tryz.prog 64 #[.string (txt x), .string (txt y)] w fun e w' => e = .returned (.int .i64 (cmpI x y)) ∧ w' = w := by
  have hc1 := sign_any x w
  have hc2 := sign_any y w
  have hc3 := Tryz.strings_TrimPrefix (txt x) ⟨#[45]⟩ w
  have hc4 := Tryz.strings_TrimPrefix (txt y) ⟨#[45]⟩ w
  rw [show (⟨#[45]⟩ : ByteArray).data.toList = [45] from rfl, trim_minus] at hc3 hc4
  rw [show (⟨(Lib.itoa (x.natAbs : Int)).toArray⟩ : ByteArray) = txt (x.natAbs : Int) from rfl] at hc3
  rw [show (⟨(Lib.itoa (y.natAbs : Int)).toArray⟩ : ByteArray) = txt (y.natAbs : Int) from rfl] at hc4
  have hc5 := Tryz.strings_Compare (txt (x.natAbs : Int)) (txt (y.natAbs : Int)) w
  rw [txt_list, txt_list] at hc5
  have hsx : (txt (x.natAbs : Int)).size = (Lib.itoa (x.natAbs : Int)).length := by simp [txt, ByteArray.size]
  have hsy : (txt (y.natAbs : Int)).size = (Lib.itoa (y.natAbs : Int)).length := by simp [txt, ByteArray.size]
  have hb := Int.sign_eq_neg_one_iff_neg (a := x)
  rcases Int.lt_trichotomy x.sign y.sign with h | h | h
  · have hr := cmpI_sign_lt h
    rw [hr]
    have hne : ¬ x.sign = y.sign := by omega
    go_enter Tryz.func64, Tryz.ntmps64
    go_wp2_with (first | (with_reducible refine Calls.mono hc1 ?_; rintro e w1 ⟨rfl, rfl⟩) | (with_reducible refine Calls.mono hc2 ?_; rintro e w1 ⟨rfl, rfl⟩))
    go_ret
    exact ⟨rfl, rfl⟩
  · have hr := cmpI_same h
    rw [← h] at hc2
    rcases Nat.lt_trichotomy (Lib.itoa (x.natAbs : Int)).length (Lib.itoa (y.natAbs : Int)).length with hl | hl | hl
    · rw [cmp_short hl] at hr
      go_enter Tryz.func64, Tryz.ntmps64
      go_wp2_with (first | (with_reducible refine Calls.mono hc1 ?_; rintro e w1 ⟨rfl, rfl⟩) | (with_reducible refine Calls.mono hc2 ?_; rintro e w1 ⟨rfl, rfl⟩) | (with_reducible refine Calls.mono hc3 ?_; rintro e w1 ⟨rfl, rfl⟩) | (with_reducible refine Calls.mono hc4 ?_; rintro e w1 ⟨rfl, rfl⟩))
      go_ret
      have hv : wrap64 (-y.sign) = cmpI x y := by rw [hr, h, wrap_sign, Int.mul_neg, Int.mul_one]
      exact ⟨congrArg (fun v => Ending.returned (.int .i64 v)) hv, rfl⟩
    · rw [← cmp_even hl] at hr
      have hcc := cmpN_cases x.natAbs y.natAbs
      rw [← cmp_even hl] at hcc
      have heq : ((Lib.itoa (x.natAbs : Int)).length : Int) = ((Lib.itoa (y.natAbs : Int)).length : Int) := by omega
      go_enter Tryz.func64, Tryz.ntmps64
      go_wp2_with (first | (with_reducible refine Calls.mono hc1 ?_; rintro e w1 ⟨rfl, rfl⟩) | (with_reducible refine Calls.mono hc2 ?_; rintro e w1 ⟨rfl, rfl⟩) | (with_reducible refine Calls.mono hc3 ?_; rintro e w1 ⟨rfl, rfl⟩) | (with_reducible refine Calls.mono hc4 ?_; rintro e w1 ⟨rfl, rfl⟩) | (with_reducible refine Calls.mono hc5 ?_; rintro e w1 ⟨rfl, rfl⟩))
      go_ret
      have hv : wrap64 (y.sign * Lib.compareBytes (Lib.itoa (x.natAbs : Int)) (Lib.itoa (y.natAbs : Int))) = cmpI x y := by rw [hr, h, wrap_signs _ hcc]
      exact ⟨congrArg (fun v => Ending.returned (.int .i64 v)) hv, rfl⟩
    · rw [cmp_long hl] at hr
      go_enter Tryz.func64, Tryz.ntmps64
      go_wp2_with (first | (with_reducible refine Calls.mono hc1 ?_; rintro e w1 ⟨rfl, rfl⟩) | (with_reducible refine Calls.mono hc2 ?_; rintro e w1 ⟨rfl, rfl⟩) | (with_reducible refine Calls.mono hc3 ?_; rintro e w1 ⟨rfl, rfl⟩) | (with_reducible refine Calls.mono hc4 ?_; rintro e w1 ⟨rfl, rfl⟩) | (with_reducible refine Calls.mono hc5 ?_; rintro e w1 ⟨rfl, rfl⟩))
      go_ret
      have hv : y.sign = cmpI x y := by rw [hr, h, Int.mul_one]
      exact ⟨congrArg (fun v => Ending.returned (.int .i64 v)) hv, rfl⟩
  · have hr := cmpI_sign_gt h
    rw [hr]
    have hne : ¬ x.sign = y.sign := by omega
    go_enter Tryz.func64, Tryz.ntmps64
    go_wp2_with (first | (with_reducible refine Calls.mono hc1 ?_; rintro e w1 ⟨rfl, rfl⟩) | (with_reducible refine Calls.mono hc2 ?_; rintro e w1 ⟨rfl, rfl⟩))
    go_ret
    exact ⟨rfl, rfl⟩

end Go.Proofs.YtgfgpepdkffhbaaGreatDoor.Kl
