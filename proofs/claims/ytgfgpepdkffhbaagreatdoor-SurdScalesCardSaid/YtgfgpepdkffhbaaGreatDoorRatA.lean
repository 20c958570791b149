/- The texts of rational numbers, and strings.Cut of them: plain laws. rational: join, lowest, New, Parts, Sign, Abs. rational: Sign, Abs, Check. rational.quick: short numbers as ints. rational: small, Mul. -/
import Derived.Test.YtgfgpepdkffhbaaGreatDoorCheck
import Derived.Test.YtgfgpepdkffhbaaGreatDoorRoot
import Derived.Test.YtgfgpepdkffhbaaGreatDoorComp
namespace Go.Proofs.YtgfgpepdkffhbaaGreatDoor.Kl
set_option linter.unusedVariables false
set_option linter.unusedSimpArgs false

theorem index_cons (b : UInt8) (l : List UInt8) (c : UInt8) : Lib.index (b :: l) [c] = if b = c then 0 else if Lib.index l [c] = -1 then -1 else Lib.index l [c] + 1 := by
  by_cases h : b = c
  · subst h; simp [Lib.index, List.isPrefixOf]
  · have h' : ¬ c = b := fun e => h e.symm
    simp [Lib.index, List.isPrefixOf, h, h']

theorem index_absent {l : List UInt8} {c : UInt8} (h : c ∉ l) : Lib.index l [c] = -1 := by
  induction l with
  | nil => simp [Lib.index]
  | cons b l ih =>
    have h1 : b ≠ c := fun e => h (by rw [e]; exact List.mem_cons_self ..)
    rw [index_cons, if_neg h1, if_pos (ih fun hm => h (List.mem_cons_of_mem _ hm))]

theorem index_at {a b : List UInt8} {c : UInt8} (h : c ∉ a) : Lib.index (a ++ c :: b) [c] = a.length := by
  induction a with
  | nil => rw [List.nil_append, index_cons, if_pos rfl]; rfl
  | cons d a ih =>
    have h1 : d ≠ c := fun e => h (by rw [e]; exact List.mem_cons_self ..)
    have := ih fun hm => h (List.mem_cons_of_mem _ hm)
    rw [List.cons_append, index_cons, if_neg h1, this, if_neg (by omega), List.length_cons]
    omega

theorem cut_none {l : List UInt8} {c : UInt8} (h : c ∉ l) : Lib.cut l [c] = (l, [], false) := by
  unfold Lib.cut
  rw [index_absent h, if_neg (by decide)]
theorem cut_at {a b : List UInt8} {c : UInt8} (h : c ∉ a) : Lib.cut (a ++ c :: b) [c] = (a, b, true) := by
  unfold Lib.cut
  rw [index_at h, if_pos (by omega)]
  simp [List.drop_append]
theorem split_at_byte (l : List UInt8) (c : UInt8) : c ∉ l ∨ ∃ a b, l = a ++ c :: b ∧ c ∉ a := by
  induction l with
  | nil => left; simp
  | cons d l ih =>
    by_cases h : d = c
    · exact Or.inr ⟨[], l, by rw [h]; rfl, by simp⟩
    · rcases ih with ih | ⟨a, b, e, hn⟩
      · left; simp [ih]; exact fun e => h e.symm
      · right
        exact ⟨d :: a, b, by rw [e]; rfl, by simp [hn]; exact fun e => h e.symm⟩

theorem dec_no {c : UInt8} (h : c.toNat < 48) (n : Nat) : c ∉ Lib.decDigits n := fun hm => by
  have := dec_all n c hm
  unfold IsDg at this; omega
theorem itoa_no47 (x : Int) : (47 : UInt8) ∉ Lib.itoa x := by
  by_cases hx : x < 0
  · rw [itoa_neg' hx]
    intro h
    rcases List.mem_cons.1 h with h | h
    · exact absurd h (by decide)
    · exact dec_no (by decide) _ h
  · rw [itoa_pos' (by omega)]; exact dec_no (by decide) _

/-- a numerator and a denominator as the program joins them. -/
def jtl (n d : Int) : List UInt8 := if d = 1 then Lib.itoa n else Lib.itoa n ++ 47 :: Lib.itoa d
/-- the text of a rational number. -/
def rtl (q : Rat) : List UInt8 := jtl q.num q.den
def rtxt (q : Rat) : ByteArray := ⟨(rtl q).toArray⟩
theorem rtxt_list (q : Rat) : (rtxt q).data.toList = rtl q := by simp [rtxt]

theorem cut_rtl (q : Rat) : Lib.cut (rtl q) [47] = (Lib.itoa q.num, if q.den = 1 then [] else Lib.itoa (q.den : Int), decide (q.den ≠ 1)) := by
  unfold rtl jtl
  by_cases h : q.den = 1
  · rw [if_pos (by omega), cut_none (itoa_no47 _)]; simp [h]
  · rw [if_neg (by omega), cut_at (itoa_no47 _)]; simp [h]

theorem rtl_inj {p q : Rat} (h : rtl p = rtl q) : p = q := by
  have hp := cut_rtl p
  rw [h, cut_rtl q] at hp
  simp only [Prod.mk.injEq] at hp
  obtain ⟨h1, h2, h3⟩ := hp
  have hn := itoa_inj h1
  apply Rat.ext hn.symm
  by_cases hq : q.den = 1
  · have : ¬ p.den ≠ 1 := by
      intro hne
      simp [hq, hne] at h3
    omega
  · have hp1 : p.den ≠ 1 := by
      intro he
      simp [hq, he] at h3
    rw [if_neg hq, if_neg hp1] at h2
    have := itoa_inj h2
    omega
theorem rtxt_inj {p q : Rat} (h : rtxt p = rtxt q) : p = q := rtl_inj (by rw [← rtxt_list, ← rtxt_list, h])

/-- the bytes write a right number. -/
def RightR (l : List UInt8) : Prop := ∃ q : Rat, l = rtl q ∧ (Lib.decDigits q.num.natAbs).length ≤ 200 ∧ (Lib.decDigits q.den).length ≤ 200

theorem rightR_plain {l : List UInt8} (h : (47 : UInt8) ∉ l) : RightR l ↔ RightI l := by
  constructor
  · rintro ⟨q, rfl, h1, h2⟩
    by_cases hd : q.den = 1
    · exact ⟨q.num, by unfold rtl jtl; rw [if_pos (by omega)], h1⟩
    · exfalso
      apply h
      unfold rtl jtl
      rw [if_neg (by omega)]
      simp
  · rintro ⟨x, rfl, h1⟩
    exact ⟨(x : Rat), by unfold rtl jtl; rw [if_pos (by rfl)]; rfl, h1, by
      show (Lib.decDigits 1).length ≤ 200
      rw [dec_small (by decide)]; decide⟩

theorem rightR_slash {a b : List UInt8} (h : (47 : UInt8) ∉ a) : RightR (a ++ 47 :: b) ↔ ∃ n d : Int, a = Lib.itoa n ∧ b = Lib.itoa d ∧ (Lib.decDigits n.natAbs).length ≤ 200 ∧ (Lib.decDigits d.natAbs).length ≤ 200 ∧ 1 < d ∧ n ≠ 0 ∧ Nat.gcd n.natAbs d.natAbs = 1 := by
  constructor
  · rintro ⟨q, hq, h1, h2⟩
    have hc := cut_rtl q
    rw [← hq, cut_at h] at hc
    simp only [Prod.mk.injEq] at hc
    obtain ⟨c1, c2, c3⟩ := hc
    have hd : q.den ≠ 1 := by
      intro he
      simp [he] at c3
    rw [if_neg hd] at c2
    have hp := q.den_pos
    refine ⟨q.num, q.den, c1, c2, h1, h2, by omega, ?_, q.reduced⟩
    intro h0
    have := q.reduced
    rw [h0] at this
    exact hd (by simpa [Nat.Coprime] using this)
  · rintro ⟨n, d, rfl, rfl, h1, h2, h3, h4, h5⟩
    refine ⟨⟨n, d.natAbs, by omega, h5⟩, ?_, h1, h2⟩
    unfold rtl jtl
    have e : ((d.natAbs : Nat) : Int) = d := by omega
    simp only
    rw [e, if_neg (by omega)]
end Go.Proofs.YtgfgpepdkffhbaaGreatDoor.Kl
namespace Go.Proofs.YtgfgpepdkffhbaaGreatDoor.Kl
open Go.RowKit Go.Shelf
set_option linter.unusedVariables false
set_option linter.unusedSimpArgs false

theorem itoa_one : Lib.itoa 1 = [49] := by rw [show (1 : Int) = ((1 : Nat) : Int) from rfl, itoa_nat, dec_small (by decide)]; rfl
theorem itoa_zero : Lib.itoa 0 = [48] := by rw [show (0 : Int) = ((0 : Nat) : Int) from rfl, itoa_nat, dec_small (by decide)]; rfl
theorem txt_is_one (d : Int) : ((txt d).toList == [49]) = decide (d = 1) := by
  rw [ByteArray.toList_eq, txt_list]
  by_cases h : d = 1
  · subst h; rw [itoa_one]; simp
  · have : Lib.itoa d ≠ [49] := fun e => h (itoa_inj (by rw [e, itoa_one]))
    simp [h, this]
theorem txt_is_zero (d : Int) : ((txt d).toList == [48]) = decide (d = 0) := by
  rw [ByteArray.toList_eq, txt_list]
  by_cases h : d = 0
  · subst h; rw [itoa_zero]; simp
  · have : Lib.itoa d ≠ [48] := fun e => h (itoa_inj (by rw [e, itoa_zero]))
    simp [h, this]

theorem join_any (n d : Int) (hn : (Lib.itoa n).length ≤ 2147483647) (hd : (Lib.itoa d).length ≤ 2147483647) (w : World) :
    Calls Tryz.prog 120 #[.string (txt n), .string (txt d)] w fun e w' => e = .returned (.string ⟨(jtl n d).toArray⟩) ∧ w' = w := by
  have h1 := txt_is_one d
  have s1 := txt_size n
  have s2 := txt_size d
  by_cases h : d = 1
  · rw [decide_eq_true h] at h1
    have hj : jtl n d = Lib.itoa n := if_pos h
    rw [hj]
    clear hj h
    go_enter Tryz.func120, Tryz.ntmps120
    go_wp2
    go_ret
    exact ⟨rfl, rfl⟩
  · rw [decide_eq_false h] at h1
    have hj : (⟨(jtl n d).toArray⟩ : ByteArray) = (txt n ++ ⟨#[47]⟩) ++ txt d := by
      apply bytes_ext
      unfold jtl
      rw [if_neg h]
      simp [ByteArray.data_append, txt]
    rw [hj]
    clear hj h
    go_enter Tryz.func120, Tryz.ntmps120
    go_wp2
    go_ret
    exact ⟨rfl, rfl⟩

theorem lowest_plain {n d : Int} (hd : 0 < d) (g : Int) (hg : ((Nat.gcd n.natAbs d.natAbs : Nat) : Int) = g) : rtl (Rat.divInt n d) = jtl (n / g) (d / g) := by
  unfold rtl
  have hgc : (d.gcd n : Int) = g := by rw [← hg, Int.gcd, Nat.gcd_comm]
  rw [Rat.num_divInt, Rat.den_divInt, if_neg (by omega), Int.sign_eq_one_of_pos hd, Int.one_mul, hgc]
  congr 1
  rw [← hgc, Int.natCast_ediv, Int.natAbs_of_nonneg (by omega)]

theorem div_len {x g : Int} {k : Nat} (hx : (Lib.itoa x).length ≤ k) (hk : 1 ≤ k) (hg : 1 ≤ g) : (Lib.itoa (x / g)).length ≤ k + 2 := by
  apply itoa_len_le (k := k + 1) _ (by omega)
  have h := itoa_small hx
  have h1 : (x / g).natAbs ≤ x.natAbs := by
    have := Int.natAbs_ediv_le_natAbs x g
    exact this
  rw [Nat.pow_succ]; omega

theorem gcd_len {x y : Int} {k : Nat} (hx : (Lib.itoa x).length ≤ k) (hy : (Lib.itoa y).length ≤ k) (hk : 1 ≤ k) (hy0 : y ≠ 0) : (Lib.itoa ((Nat.gcd x.natAbs y.natAbs : Nat) : Int)).length ≤ k + 1 := by
  apply itoa_len_le (k := k) _ hk
  rw [Int.natAbs_natCast]
  exact Nat.lt_of_le_of_lt (Nat.gcd_le_right _ (by omega)) (itoa_small hy)

theorem lowest_pos (n d : Int) (hd : 0 < d) (hn : (Lib.itoa n).length ≤ 2000000) (hdl : (Lib.itoa d).length ≤ 2000000) (w : World) (hW : Wd w) :
    Calls Tryz.prog 101 #[.string (txt n), .string (txt d)] w fun e w' => e = .returned (.string (rtxt (Rat.divInt n d))) ∧ Below w.heap.size w w' := by
  have hsg := sign_any d w
  rw [Int.sign_eq_one_of_pos hd] at hsg
  have hgc := gcd_any n d w hW (by omega) (by omega)
  have hgp : 0 < Nat.gcd n.natAbs d.natAbs := Nat.gcd_pos_of_pos_right _ (by omega)
  have hgl := gcd_len hn hdl (by decide) (by omega)
  obtain ⟨g, hg⟩ : ∃ g : Int, ((Nat.gcd n.natAbs d.natAbs : Nat) : Int) = g := ⟨_, rfl⟩
  have hlp := lowest_plain hd g hg
  have hr : rtxt (Rat.divInt n d) = ⟨(jtl (n / g) (d / g)).toArray⟩ := by unfold rtxt; rw [hlp]
  rw [hg] at hgc hgl
  have hg1 : 1 ≤ g := by omega
  have h1 := txt_is_one g
  rw [hr]
  clear hlp hr hg hgp
  have l1 := div_len hn (by decide) hg1
  have l2 := div_len hdl (by decide) hg1
  by_cases hone : g = 1
  · rw [decide_eq_true hone] at h1
    have e1 : n / g = n := by rw [hone, Int.ediv_one]
    have e2 : d / g = d := by rw [hone, Int.ediv_one]
    rw [e1, e2]
    clear e1 e2 hone l1 l2
    go_enter Tryz.func101, Tryz.ntmps101
    go_wp2_with (first
      | (with_reducible refine Calls.mono hsg ?_; rintro e w1 ⟨rfl, rfl⟩)
      | (with_reducible refine Calls.mono hgc ?_; rintro e w2 ⟨rfl, hb2⟩; have hj := join_any n d (by omega) (by omega) w2)
      | (with_reducible refine Calls.mono hj ?_; rintro e w3 ⟨rfl, rfl⟩))
    go_ret
    exact ⟨rfl, hb2⟩
  · rw [decide_eq_false hone] at h1
    clear hone
    go_enter Tryz.func101, Tryz.ntmps101
    go_wp2_with (first
      | (with_reducible refine Calls.mono hsg ?_; rintro e w1 ⟨rfl, rfl⟩)
      | (with_reducible refine Calls.mono hgc ?_; rintro e w2 ⟨rfl, hb2⟩; have hd1 := divmod_any n g (by omega) w2 (hW.below hb2) (by omega) (by omega))
      | (with_reducible refine Calls.mono hd1 ?_; rintro e w3 ⟨rfl, hb3⟩; have hB3 := hb2.trans (hb3.mono hb2.size); have hd2 := divmod_any d g (by omega) w3 (hW.below hB3) (by omega) (by omega))
      | (with_reducible refine Calls.mono hd2 ?_; rintro e w4 ⟨rfl, hb4⟩; have hB4 := hB3.trans (hb4.mono hB3.size); have hj := join_any (n / g) (d / g) (by omega) (by omega) w4)
      | (with_reducible refine Calls.mono hj ?_; rintro e w5 ⟨rfl, rfl⟩))
    go_ret
    exact ⟨rfl, hB4⟩

theorem new_any (n d : Int) (hd : 0 < d) (hn : (Lib.itoa n).length ≤ 2000000) (hdl : (Lib.itoa d).length ≤ 2000000) (w : World) (hW : Wd w) :
    Calls Tryz.prog 71 #[.string (txt n), .string (txt d)] w fun e w' => e = .returned (.tuple #[.string (rtxt (Rat.divInt n d)), .int .i64 0]) ∧ Below w.heap.size w w' := by
  have hsg := sign_any d w
  rw [Int.sign_eq_one_of_pos hd] at hsg
  have hlo := lowest_pos n d hd hn hdl w hW
  go_enter Tryz.func71, Tryz.ntmps71
  go_wp2_with (first
      | (with_reducible refine Calls.mono hsg ?_; rintro e w1 ⟨rfl, rfl⟩)
      | (with_reducible refine Calls.mono hlo ?_; rintro e w2 ⟨rfl, hb2⟩))
  go_ret2
  exact ⟨rfl, hb2⟩

theorem txt_one' : (⟨#[49]⟩ : ByteArray) = txt 1 := by
  apply bytes_ext
  rw [txt_list, itoa_one]

theorem rtl_len (q : Rat) : (rtl q).length ≤ (Lib.itoa q.num).length + 1 + (Lib.itoa (q.den : Int)).length := by
  unfold rtl jtl
  split
  · omega
  · simp; omega

theorem parts_any (q : Rat) (hs : (rtl q).length ≤ 4294967280) (w : World) (hW : Wd w) :
    Calls Tryz.prog 29 #[.string (rtxt q)] w fun e w' => e = .returned (.tuple #[.string (txt q.num), .string (txt (q.den : Int))]) ∧ ∃ k, w' = w.drewN k := by
  have hsz : (rtxt q).size < 4294967281 := by
    rw [Lib.size_eq, rtxt_list]; omega
  have hc := Tryz.strings_Cut_shaped (rtxt q) ⟨#[47]⟩ w hW.shaped hsz
  rw [rtxt_list, show (⟨#[47]⟩ : ByteArray).data.toList = [47] from rfl, cut_rtl] at hc
  by_cases hd : q.den = 1
  · rw [hd] at hc ⊢
    rw [show ((1 : Nat) : Int) = 1 from rfl, ← txt_one']
    simp only [ne_eq, not_true_eq_false, decide_false, if_true] at hc
    go_enter Tryz.func29, Tryz.ntmps29
    go_wp2_with (first
      | (with_reducible refine Calls.mono hc ?_; rintro e w1 ⟨rfl, k, rfl⟩))
    go_ret2
    exact ⟨rfl, k, rfl⟩
  · simp only [ne_eq, hd, not_false_eq_true, decide_true, if_false] at hc
    go_enter Tryz.func29, Tryz.ntmps29
    go_wp2_with (first
      | (with_reducible refine Calls.mono hc ?_; rintro e w1 ⟨rfl, k, rfl⟩))
    go_ret2
    exact ⟨rfl, k, rfl⟩
end Go.Proofs.YtgfgpepdkffhbaaGreatDoor.Kl
namespace Go.Proofs.YtgfgpepdkffhbaaGreatDoor.Kl
open Go.RowKit Go.Shelf
set_option linter.unusedVariables false
set_option linter.unusedSimpArgs false

theorem itoa_head_neg {x : Int} (h : x < 0) : ∃ t, Lib.itoa x = 45 :: t := ⟨_, itoa_neg' h⟩
theorem itoa_head_pos {x : Int} (h : ¬ x < 0) : ∃ c t, Lib.itoa x = c :: t ∧ c ≠ 45 := by
  rw [itoa_pos' (by omega)]
  match hd : Lib.decDigits x.natAbs, dec_ne x.natAbs with
  | c :: t, _ => exact ⟨c, t, rfl, fun e => dec_not45 x.natAbs (by rw [hd, e]; rfl)⟩
theorem rtl_head (q : Rat) : ∃ c t, rtl q = c :: t ∧ (c = 45 ↔ q.num < 0) := by
  unfold rtl jtl
  by_cases h : q.num < 0
  · obtain ⟨t, e⟩ := itoa_head_neg h
    split
    · exact ⟨45, t, e, by simp [h]⟩
    · exact ⟨45, _, by rw [e]; rfl, by simp [h]⟩
  · obtain ⟨c, t, e, hc⟩ := itoa_head_pos h
    split
    · exact ⟨c, t, e, by simp [h, hc]⟩
    · exact ⟨c, _, by rw [e]; rfl, by simp [h, hc]⟩

theorem rtxt_size (q : Rat) : (rtxt q).size = (rtl q).length := by rw [Lib.size_eq, rtxt_list]
theorem rtxt_pos (q : Rat) : 0 < (rtxt q).size := by
  obtain ⟨c, t, e, _⟩ := rtl_head q
  rw [rtxt_size, e]; simp
theorem rtxt_first (q : Rat) (h : 0 < (rtxt q).size) : (((rtxt q)[0]'h).toNat = 45) ↔ q.num < 0 := by
  obtain ⟨c, t, e, hc⟩ := rtl_head q
  have h2 : (rtxt q)[0]'h = c := by
    have : (rtxt q).data.toList[0]? = some c := by rw [rtxt_list, e]; rfl
    have h3 : (rtxt q).data.toList[0]? = some ((rtxt q)[0]'h) := by
      rw [List.getElem?_eq_getElem (by rw [← Lib.size_eq]; exact h)]; rfl
    rw [h3] at this
    exact Option.some.inj this
  rw [h2, ← hc]
  constructor
  · intro h; exact UInt8.toNat_inj.1 h
  · intro h; rw [h]; rfl
theorem rtl_zero : rtl 0 = [48] := by
  unfold rtl jtl
  rw [if_pos (by rfl)]; exact itoa_zero
theorem rtxt_is_zero (q : Rat) : ((rtxt q).toList == [48]) = decide (q.num = 0) := by
  rw [ByteArray.toList_eq, rtxt_list]
  by_cases h : q.num = 0
  · have : q = 0 := Rat.num_eq_zero.1 h
    subst this; rw [rtl_zero]; simp
  · have : rtl q ≠ [48] := fun e => h (by
      have := rtl_inj (q := 0) (by rw [e, rtl_zero])
      rw [this]; rfl)
    simp [h, this]

theorem rsign_any (q : Rat) (w : World) :
    Calls Tryz.prog 28 #[.string (rtxt q)] w fun e w' => e = .returned (.int .i64 q.num.sign) ∧ w' = w := by
  have hz := rtxt_is_zero q
  have hp := rtxt_pos q
  have hf := rtxt_first q hp
  obtain ⟨u, hu⟩ : ∃ u, (rtxt q)[0]'hp = u := ⟨_, rfl⟩
  rw [hu] at hf
  by_cases h0 : q.num = 0
  · rw [decide_eq_true h0] at hz
    rw [h0, show (0 : Int).sign = 0 from rfl]
    clear h0 hf
    go_enter Tryz.func28, Tryz.ntmps28
    go_wp2
    go_ret
    exact ⟨rfl, rfl⟩
  · rw [decide_eq_false h0] at hz
    by_cases hn : q.num < 0
    · rw [Int.sign_eq_neg_one_of_neg hn]
      have hf' : (u.toNat : Int) = 45 := by have := hf.2 hn; omega
      clear h0 hf hn
      go_enter Tryz.func28, Tryz.ntmps28
      go_wp2
      go_ret
      exact ⟨rfl, rfl⟩
    · rw [Int.sign_eq_one_of_pos (by omega)]
      have hf' : ¬ (u.toNat : Int) = 45 := by
        intro h; exact hn (hf.1 (by omega))
      clear h0 hf hn
      go_enter Tryz.func28, Tryz.ntmps28
      go_wp2
      go_ret
      exact ⟨rfl, rfl⟩

theorem rtl_neg {q : Rat} (h : q.num < 0) : rtl q = 45 :: rtl (-q) := by
  unfold rtl jtl
  rw [Rat.neg_num, Rat.neg_den, itoa_neg' h, itoa_pos' (x := -q.num) (by omega), Int.natAbs_neg]
  split <;> simp

theorem rabs_any (q : Rat) (hs : (rtl q).length ≤ 4294967280) (w : World) :
    Calls Tryz.prog 57 #[.string (rtxt q)] w fun e w' => e = .returned (.string (rtxt (if q.num < 0 then -q else q))) ∧ w' = w := by
  have hp := rtxt_pos q
  have hf := rtxt_first q hp
  have hsz := rtxt_size q
  obtain ⟨u, hu⟩ : ∃ u, (rtxt q)[0]'hp = u := ⟨_, rfl⟩
  rw [hu] at hf
  by_cases hn : q.num < 0
  · rw [if_pos hn]
    have hf' : (u.toNat : Int) = 45 := by have := hf.2 hn; omega
    have hcut : (rtxt q).extract 1 (rtxt q).size = rtxt (-q) := by
      apply bytes_ext
      have := Lib.extract_data (rtxt q) 1 (rtxt q).size
      rw [this, rtxt_list, rtxt_list, hsz, rtl_neg hn]
      simp
    have hlen : (1 : Int) ≤ ((rtxt q).size : Int) := by omega
    clear hf hn
    go_enter Tryz.func57, Tryz.ntmps57
    go_wp2
    go_ret
    exact ⟨by rw [← hcut]; rfl, rfl⟩
  · rw [if_neg hn]
    have hf' : ¬ (u.toNat : Int) = 45 := by
      intro h; exact hn (hf.1 (by omega))
    clear hf hn
    go_enter Tryz.func57, Tryz.ntmps57
    go_wp2
    go_ret
    exact ⟨rfl, rfl⟩

theorem checkI_right (x : Int) (hx : (Lib.decDigits x.natAbs).length ≤ 200) (w : World) :
    Calls Tryz.prog 63 #[.string (txt x)] w fun e w' => e = .returned (.int .i64 0) ∧ Below w.heap.size w w' := by
  have hl : (Lib.itoa x).length ≤ 201 := by
    by_cases h : x < 0
    · rw [itoa_neg' h, List.length_cons]; omega
    · rw [itoa_pos' (by omega)]; omega
  refine (checkI_any (txt x) (by rw [txt_size]; omega) w).mono ?_
  rintro e w' ⟨⟨c, rfl, h1, h2⟩, hb⟩
  have hc : c = 0 := h1 ⟨x, txt_list x, hx⟩
  exact ⟨by rw [hc], hb⟩
theorem checkI_wrong (s : ByteArray) (hs : s.size ≤ 4294967296) (hr : ¬ RightI s.data.toList) (w : World) :
    Calls Tryz.prog 63 #[.string s] w fun e w' => e = .returned (.int .i64 2) ∧ Below w.heap.size w w' := by
  refine (checkI_any s hs w).mono ?_
  rintro e w' ⟨⟨c, rfl, h1, h2⟩, hb⟩
  exact ⟨by rw [h2 hr], hb⟩

theorem dig_len {x : Int} {k : Nat} (hx : (Lib.decDigits x.natAbs).length ≤ k) : (Lib.itoa x).length ≤ k + 1 := by
  by_cases h : x < 0
  · rw [itoa_neg' h, List.length_cons]; omega
  · rw [itoa_pos' (by omega)]; omega

theorem checkR_plain (s : ByteArray) (hs : s.size ≤ 4294967280) (h47 : (47 : UInt8) ∉ s.data.toList) (w : World) (hW : Wd w) :
    Calls Tryz.prog 27 #[.string s] w fun e w' => (∃ c : Int, e = .returned (.int .i64 c) ∧ (RightR s.data.toList → c = 0) ∧ (¬ RightR s.data.toList → c = 2)) ∧ Below w.heap.size w w' := by
  rw [rightR_plain h47]
  have hc := Tryz.strings_Cut_shaped s ⟨#[47]⟩ w hW.shaped (by omega)
  rw [show (⟨#[47]⟩ : ByteArray).data.toList = [47] from rfl, cut_none h47] at hc
  rw [show (⟨s.data.toList.toArray⟩ : ByteArray) = s from by apply bytes_ext; simp] at hc
  by_cases hr : RightI s.data.toList
  · obtain ⟨x, hx, hl⟩ := hr
    have hst : s = txt x := by apply bytes_ext; rw [hx, txt_list]
    have hr' : RightI (txt x).data.toList := ⟨x, txt_list x, hl⟩
    subst hst
    have HR := Lib.hid hr'; clear hr'
    go_enter Tryz.func27, Tryz.ntmps27
    go_wp2_with (first
      | (with_reducible refine Calls.mono hc ?_; rintro e w1 ⟨rfl, k, rfl⟩; have hci := checkI_right x hl (w.drewN k))
      | (with_reducible refine Calls.mono hci ?_; rintro e w2 ⟨rfl, hb2⟩))
    go_ret
    exact ⟨⟨0, rfl, fun _ => rfl, fun h => absurd HR.out h⟩, (below_drewN (Below.refl _ w) k).trans hb2⟩
  · have HR := Lib.hid hr; clear hr
    go_enter Tryz.func27, Tryz.ntmps27
    go_wp2_with (first
      | (with_reducible refine Calls.mono hc ?_; rintro e w1 ⟨rfl, k, rfl⟩; have hci := checkI_wrong s (by omega) HR.out (w.drewN k))
      | (with_reducible refine Calls.mono hci ?_; rintro e w2 ⟨rfl, hb2⟩))
    go_ret
    exact ⟨⟨2, rfl, fun h => absurd h HR.out, fun _ => rfl⟩, (below_drewN (Below.refl _ w) k).trans hb2⟩

theorem one_txt : txt 1 = ⟨#[49]⟩ := txt_one'.symm

set_option maxHeartbeats 1000000 in
theorem checkR_slash (a b : List UInt8) (h47 : (47 : UInt8) ∉ a) (hs : (a ++ 47 :: b).length ≤ 4294967280) (w : World) (hW : Wd w) :
    Calls Tryz.prog 27 #[.string ⟨(a ++ 47 :: b).toArray⟩] w fun e w' => (∃ c : Int, e = .returned (.int .i64 c) ∧ (RightR (a ++ 47 :: b) → c = 0) ∧ (¬ RightR (a ++ 47 :: b) → c = 2)) ∧ Below w.heap.size w w' := by
  have hsl := rightR_slash (b := b) h47
  have hsz : (⟨(a ++ 47 :: b).toArray⟩ : ByteArray).size < 4294967281 := by
    rw [Lib.size_eq]; simp only [List.toList_toArray]; omega
  have hc := Tryz.strings_Cut_shaped ⟨(a ++ 47 :: b).toArray⟩ ⟨#[47]⟩ w hW.shaped hsz
  rw [show (⟨#[47]⟩ : ByteArray).data.toList = [47] from rfl, show (⟨(a ++ 47 :: b).toArray⟩ : ByteArray).data.toList = a ++ 47 :: b from by simp, cut_at h47] at hc
  have hal : a.length ≤ 4294967280 := by simp at hs; omega
  have hbl : b.length ≤ 4294967280 := by simp at hs; omega
  have hsa : (⟨a.toArray⟩ : ByteArray).data.toList = a := by simp
  have hsb : (⟨b.toArray⟩ : ByteArray).data.toList = b := by simp
  have hza : (⟨a.toArray⟩ : ByteArray).size ≤ 4294967296 := by rw [Lib.size_eq, hsa]; omega
  have hzb : (⟨b.toArray⟩ : ByteArray).size ≤ 4294967296 := by rw [Lib.size_eq, hsb]; omega
  obtain ⟨S, hS⟩ : ∃ S, (⟨(a ++ 47 :: b).toArray⟩ : ByteArray) = S := ⟨_, rfl⟩
  rw [hS] at hc ⊢
  clear hS hsz hs
  by_cases hra : RightI a
  rotate_left
  · have hno : ¬ RightR (a ++ 47 :: b) := fun h => by
      obtain ⟨n, d, e1, e2, l1, l2, _⟩ := hsl.1 h
      exact hra ⟨n, e1, l1⟩
    have HR := Lib.hid hno; clear hno hsl
    have hra' : ¬ RightI (⟨a.toArray⟩ : ByteArray).data.toList := by rw [hsa]; exact hra
    have HA := Lib.hid hra'; clear hra' hra hsa hsb
    go_enter Tryz.func27, Tryz.ntmps27
    go_wp2_with (first
      | (with_reducible refine Calls.mono hc ?_; rintro e w1 ⟨rfl, k, rfl⟩; have hci := checkI_wrong ⟨a.toArray⟩ hza HA.out (w.drewN k))
      | (with_reducible refine Calls.mono hci ?_; rintro e w2 ⟨rfl, hb2⟩))
    go_ret
    exact ⟨⟨2, rfl, fun h => absurd h HR.out, fun _ => rfl⟩, (below_drewN (Below.refl _ w) k).trans hb2⟩
  · obtain ⟨n, rfl, hnl⟩ := hra
    by_cases hrb : RightI b
    rotate_left
    · have hno : ¬ RightR (Lib.itoa n ++ 47 :: b) := fun h => by
        obtain ⟨n', d, e1, e2, l1, l2, _⟩ := hsl.1 h
        exact hrb ⟨d, e2, l2⟩
      have HR := Lib.hid hno; clear hno hsl
      have hrb' : ¬ RightI (⟨b.toArray⟩ : ByteArray).data.toList := by rw [hsb]; exact hrb
      have HB := Lib.hid hrb'; clear hrb' hrb hsa hsb
      rw [show (⟨(Lib.itoa n).toArray⟩ : ByteArray) = txt n from rfl] at hc
      go_enter Tryz.func27, Tryz.ntmps27
      go_wp2_with (first
        | (with_reducible refine Calls.mono hc ?_; rintro e w1 ⟨rfl, k, rfl⟩; have hci := checkI_right n hnl (w.drewN k))
        | (with_reducible refine Calls.mono hci ?_; rintro e w2 ⟨rfl, hb2⟩; have hcj := checkI_wrong ⟨b.toArray⟩ hzb HB.out w2)
        | (with_reducible refine Calls.mono hcj ?_; rintro e w3 ⟨rfl, hb3⟩))
      go_ret
      have hB := (below_drewN (Below.refl _ w) k).trans hb2
      exact ⟨⟨2, rfl, fun h => absurd h HR.out, fun _ => rfl⟩, hB.trans (hb3.mono hB.size)⟩
    · obtain ⟨d, rfl, hdl⟩ := hrb
      have hnl' := dig_len hnl
      have hdl' := dig_len hdl
      have hlen : ∀ x : Int, (Lib.decDigits x.natAbs).length ≤ 200 → (Lib.itoa (x.natAbs : Int)).length ≤ 4294967296 := fun x hx => by rw [itoa_nat]; omega
      have hcmp := fun w => compare_any d 1 w (hlen d hdl) (by rw [show ((1 : Int).natAbs : Int) = 1 from rfl, itoa_one]; decide)
      rw [one_txt] at hcmp
      have hzero := txt_is_zero n
      rw [show (⟨(Lib.itoa n).toArray⟩ : ByteArray) = txt n from rfl, show (⟨(Lib.itoa d).toArray⟩ : ByteArray) = txt d from rfl] at hc
      have hgone := txt_is_one ((Nat.gcd n.natAbs d.natAbs : Nat) : Int)
      obtain ⟨g, hg⟩ : ∃ g : Int, ((Nat.gcd n.natAbs d.natAbs : Nat) : Int) = g := ⟨_, rfl⟩
      have hgcd := fun w hW => gcd_any n d w hW (by omega) (by omega)
      rw [hg] at hgone hgcd
      have hiff : RightR (Lib.itoa n ++ 47 :: Lib.itoa d) ↔ 1 < d ∧ n ≠ 0 ∧ g = 1 := by
        rw [hsl]
        constructor
        · rintro ⟨n', d', e1, e2, _, _, h1, h2, h3⟩
          rw [itoa_inj e1, itoa_inj e2]
          rw [itoa_inj e1, itoa_inj e2] at hg
          exact ⟨h1, h2, by omega⟩
        · rintro ⟨h1, h2, h3⟩
          exact ⟨n, d, rfl, rfl, hnl, hdl, h1, h2, by omega⟩
      clear hsl hg hsa hsb hza hzb hal hbl hlen
      have hdk : ∀ k w2, Below (w.drewN k).heap.size (w.drewN k) w2 → Below w.heap.size w w2 := fun k w2 h => (below_drewN (Below.refl _ w) k).trans h
      by_cases h1 : 1 < d
      · have hcc : cmpI d 1 = 1 := by unfold cmpI; rw [if_neg (by omega), if_neg (by omega)]
        rw [hcc] at hcmp
        clear hcc
        by_cases h2 : n = 0
        · have HR := Lib.hid (show ¬ RightR (Lib.itoa n ++ 47 :: Lib.itoa d) from fun h => (hiff.1 h).2.1 h2)
          clear hiff
          rw [decide_eq_true h2] at hzero
          clear h2 h1
          go_enter Tryz.func27, Tryz.ntmps27
          go_wp2_with (first
            | (with_reducible refine Calls.mono hc ?_; rintro e w1 ⟨rfl, k, rfl⟩; have hci := checkI_right n hnl (w.drewN k))
            | (with_reducible refine Calls.mono hci ?_; rintro e w2 ⟨rfl, hb2⟩; have hcj := checkI_right d hdl w2)
            | (with_reducible refine Calls.mono hcj ?_; rintro e w3 ⟨rfl, hb3⟩; have hck := hcmp w3)
            | (with_reducible refine Calls.mono hck ?_; rintro e w4 ⟨rfl, rfl⟩))
          go_ret
          have hB := (below_drewN (Below.refl _ w) k).trans hb2
          exact ⟨⟨2, rfl, fun h => absurd h HR.out, fun _ => rfl⟩, hB.trans (hb3.mono hB.size)⟩
        · rw [decide_eq_false h2] at hzero
          by_cases h3 : g = 1
          · have HR := Lib.hid (show RightR (Lib.itoa n ++ 47 :: Lib.itoa d) from hiff.2 ⟨h1, h2, h3⟩)
            clear hiff
            rw [decide_eq_true h3] at hgone
            clear h2 h1 h3
            go_enter Tryz.func27, Tryz.ntmps27
            go_wp2_with (first
              | (with_reducible refine Calls.mono hc ?_; rintro e w1 ⟨rfl, k, rfl⟩; have hci := checkI_right n hnl (w.drewN k))
              | (with_reducible refine Calls.mono hci ?_; rintro e w2 ⟨rfl, hb2⟩; have hcj := checkI_right d hdl w2)
              | (with_reducible refine Calls.mono hcj ?_; rintro e w3 ⟨rfl, hb3⟩; have hck := hcmp w3)
              | (with_reducible refine Calls.mono hck ?_; rintro e w4 ⟨rfl, rfl⟩; have hB2 := hdk k w2 hb2; have hB3 := hB2.trans (hb3.mono hB2.size); have hcg := hgcd w4 (hW.below hB3))
              | (with_reducible refine Calls.mono hcg ?_; rintro e w5 ⟨rfl, hb5⟩))
            go_ret
            exact ⟨⟨0, rfl, fun _ => rfl, fun h => absurd HR.out h⟩, hB3.trans (hb5.mono hB3.size)⟩
          · have HR := Lib.hid (show ¬ RightR (Lib.itoa n ++ 47 :: Lib.itoa d) from fun h => h3 (hiff.1 h).2.2)
            clear hiff
            rw [decide_eq_false h3] at hgone
            clear h2 h1 h3
            go_enter Tryz.func27, Tryz.ntmps27
            go_wp2_with (first
              | (with_reducible refine Calls.mono hc ?_; rintro e w1 ⟨rfl, k, rfl⟩; have hci := checkI_right n hnl (w.drewN k))
              | (with_reducible refine Calls.mono hci ?_; rintro e w2 ⟨rfl, hb2⟩; have hcj := checkI_right d hdl w2)
              | (with_reducible refine Calls.mono hcj ?_; rintro e w3 ⟨rfl, hb3⟩; have hck := hcmp w3)
              | (with_reducible refine Calls.mono hck ?_; rintro e w4 ⟨rfl, rfl⟩; have hB2 := hdk k w2 hb2; have hB3 := hB2.trans (hb3.mono hB2.size); have hcg := hgcd w4 (hW.below hB3))
              | (with_reducible refine Calls.mono hcg ?_; rintro e w5 ⟨rfl, hb5⟩))
            go_ret
            exact ⟨⟨2, rfl, fun h => absurd h HR.out, fun _ => rfl⟩, hB3.trans (hb5.mono hB3.size)⟩
      · have HR := Lib.hid (show ¬ RightR (Lib.itoa n ++ 47 :: Lib.itoa d) from fun h => h1 (hiff.1 h).1)
        have hcc : cmpI d 1 ≤ 0 := by unfold cmpI; split; omega; split <;> omega
        obtain ⟨z, hz⟩ : ∃ z, cmpI d 1 = z := ⟨_, rfl⟩
        rw [hz] at hcmp hcc
        clear hz hiff h1
        go_enter Tryz.func27, Tryz.ntmps27
        go_wp2_with (first
          | (with_reducible refine Calls.mono hc ?_; rintro e w1 ⟨rfl, k, rfl⟩; have hci := checkI_right n hnl (w.drewN k))
          | (with_reducible refine Calls.mono hci ?_; rintro e w2 ⟨rfl, hb2⟩; have hcj := checkI_right d hdl w2)
          | (with_reducible refine Calls.mono hcj ?_; rintro e w3 ⟨rfl, hb3⟩; have hck := hcmp w3)
          | (with_reducible refine Calls.mono hck ?_; rintro e w4 ⟨rfl, rfl⟩))
        go_ret
        have hB := (below_drewN (Below.refl _ w) k).trans hb2
        exact ⟨⟨2, rfl, fun h => absurd h HR.out, fun _ => rfl⟩, hB.trans (hb3.mono hB.size)⟩

/-- Check of any bytes. -/
theorem checkR_any (s : ByteArray) (hs : s.size ≤ 4294967280) (w : World) (hW : Wd w) :
    Calls Tryz.prog 27 #[.string s] w fun e w' => (∃ c : Int, e = .returned (.int .i64 c) ∧ (RightR s.data.toList → c = 0) ∧ (¬ RightR s.data.toList → c = 2)) ∧ Below w.heap.size w w' := by
  rcases split_at_byte s.data.toList 47 with h | ⟨a, b, e, h⟩
  · exact checkR_plain s hs h w hW
  · have hs' : s = ⟨(a ++ 47 :: b).toArray⟩ := by apply bytes_ext; simp [e]
    rw [Lib.size_eq, e] at hs
    rw [e, hs']
    exact checkR_slash a b h hs w hW
end Go.Proofs.YtgfgpepdkffhbaaGreatDoor.Kl
namespace Go.Proofs.YtgfgpepdkffhbaaGreatDoor.Kl
open Go.RowKit Go.Shelf
set_option linter.unusedVariables false
set_option linter.unusedSimpArgs false

/-- the first bytes of digits, as a number, is below a power of ten. -/
theorem dval_take_lt {D : List UInt8} (h : AllDg D) {k : Nat} (hk : k ≤ 9) : dval (D.take k) < 1000000000 := by
  have h1 := dval_lt (h.take k)
  have h2 : (D.take k).length ≤ 9 := by rw [List.length_take]; omega
  exact Nat.lt_of_lt_of_le h1 (Nat.pow_le_pow_right (by decide) h2)
theorem dval_take_succ {D : List UInt8} {k : Nat} {u : UInt8} (h : D[k]? = some u) : dval (D.take (k + 1)) = 10 * dval (D.take k) + (u.toNat - 48) := by
  rw [List.take_add_one, h]
  exact dval_snoc _ _

/-- the parts of the bytes of a number. -/
structure Bytes3 (L : List UInt8) (B : Nat) (D : List UInt8) (one : Bool) (E : List UInt8) : Prop where
  digits : ∀ k u, D[k]? = some u → L[B + k]? = some u
  allD : AllDg D
  allE : AllDg E
  last : one = true → L.length = B + D.length
  slash : one = false → L[B + D.length]? = some 47 ∧ L.length = B + D.length + 1 + E.length ∧ ∀ k u, E[k]? = some u → L[B + D.length + 1 + k]? = some u

theorem bytes3_rtl (q : Rat) (B : Nat) (hB : B = if q.num < 0 then 1 else 0) : Bytes3 (rtl q) B (Lib.decDigits q.num.natAbs) (decide (q.den = 1)) (Lib.decDigits q.den) := by
  have hit : Lib.itoa q.num = (if q.num < 0 then [45] else []) ++ Lib.decDigits q.num.natAbs := by
    by_cases h : q.num < 0
    · rw [if_pos h, itoa_neg' h]; rfl
    · rw [if_neg h, itoa_pos' (by omega)]; rfl
  have hBl : ((if q.num < 0 then [45] else []) : List UInt8).length = B := by
    rw [hB]; split <;> rfl
  generalize (if q.num < 0 then [45] else [] : List UInt8) = P at hit hBl
  generalize hD : Lib.decDigits q.num.natAbs = D at hit
  generalize hE : Lib.decDigits q.den = E
  have hL : rtl q = P ++ D ++ (if q.den = 1 then [] else 47 :: E) := by
    unfold rtl jtl
    rw [hit, itoa_nat, hE]
    by_cases h : q.den = 1
    · rw [if_pos (by omega), if_pos h, List.append_nil]
    · rw [if_neg (by omega), if_neg h]
  refine ⟨?_, hD ▸ dec_all _, hE ▸ dec_all _, ?_, ?_⟩
  · intro k u hk
    have hlt := (List.getElem?_eq_some_iff.1 hk).1
    rw [hL, List.getElem?_append_left (by rw [List.length_append]; omega), List.getElem?_append_right (by omega)]
    rw [hBl, Nat.add_sub_cancel_left]; exact hk
  · intro h1
    have : q.den = 1 := of_decide_eq_true h1
    rw [hL, if_pos this]; simp; omega
  · intro h1
    have : ¬ q.den = 1 := of_decide_eq_false h1
    rw [hL, if_neg this]
    refine ⟨?_, ?_, ?_⟩
    · rw [List.getElem?_append_right (by rw [List.length_append]; omega)]
      rw [List.length_append, hBl, Nat.sub_self]; rfl
    · simp; omega
    · intro k u hk
      rw [List.getElem?_append_right (by rw [List.length_append]; omega)]
      rw [List.length_append, hBl, show B + D.length + 1 + k - (B + D.length) = k + 1 by omega]
      exact hk

theorem byte_at {s : ByteArray} {L : List UInt8} (hs : s.data.toList = L) {i : Nat} {u : UInt8} (h : L[i]? = some u) : ∃ hi : i < s.size, s[i]'hi = u := by
  have hlt := (List.getElem?_eq_some_iff.1 h).1
  have hi : i < s.size := by rw [Lib.size_eq, hs]; exact hlt
  refine ⟨hi, ?_⟩
  subst hs
  have h3 : s.data.toList[i]? = some (s[i]'hi) := by
    rw [List.getElem?_eq_getElem hlt]; rfl
  rw [h3] at h
  exact Option.some.inj h


set_option maxRecDepth 100000 in
set_option maxHeartbeats 1000000 in
theorem rquick_pos (q : Rat) (hn : ¬ q.num < 0) (hs : (rtl q).length ≤ 4294967280) (w : World) :
    Calls Tryz.prog 99 #[.string (rtxt q)] w fun e w' => e = .returned (if (Lib.decDigits q.num.natAbs).length ≤ 9 ∧ (q.den = 1 ∨ (Lib.decDigits q.den).length ≤ 9) then .tuple #[.int .i64 q.num, .int .i64 q.den, .bool true] else .tuple #[.int .i64 0, .int .i64 0, .bool false]) ∧ w' = w := by
  have hb3 := bytes3_rtl q 0 (by simp [hn])
  have hp := rtxt_pos q
  have hsz := rtxt_size q
  have hf : (((rtxt q)[0]'hp).toNat = 45) ↔ q.num < 0 := rtxt_first q hp
  obtain ⟨u0, hu0⟩ : ∃ u, (rtxt q)[0]'hp = u := ⟨_, rfl⟩
  rw [hu0] at hf
  have hf' : ¬ (u0.toNat : Int) = 45 := by
    intro h; exact hn (hf.1 (by omega))
  have hvn : ((dval (Lib.decDigits q.num.natAbs) : Nat) : Int) = q.num := by rw [dval_dec]; omega
  have hve : dval (Lib.decDigits q.den) = q.den := dval_dec _
  have hlen2 : (rtl q).length = (rtxt q).size := hsz.symm
  have hlist := rtxt_list q
  clear hf hn
  generalize hD : Lib.decDigits q.num.natAbs = D at hb3 hvn ⊢
  generalize hE : Lib.decDigits q.den = E at hb3 hve ⊢
  clear hD hE
  obtain ⟨r, hr⟩ : ∃ r : Value, (if D.length ≤ 9 ∧ (q.den = 1 ∨ E.length ≤ 9) then Value.tuple #[.int .i64 q.num, .int .i64 q.den, .bool true] else .tuple #[.int .i64 0, .int .i64 0, .bool false]) = r := ⟨_, rfl⟩
  rw [hr]
  have HR := Lib.hid hr; clear hr
  generalize hS : rtxt q = S at hp hsz hu0 hlen2 hlist ⊢
  clear hS
  obtain ⟨one, hone⟩ : ∃ one, decide (q.den = 1) = one := ⟨_, rfl⟩
  rw [hone] at hb3
  have HB3 := Lib.hid hb3; clear hb3
  have HON := Lib.hid hone; clear hone
  have HVN := Lib.hid hvn; clear hvn
  have HVE := Lib.hid hve; clear hve
  have HLL := Lib.hid hlist; clear hlist
  have hSb : S.size ≤ 4294967280 := by omega
  clear hsz
  go_enter Tryz.func99, Tryz.ntmps99
  go_wp2_with fail
  go_loopw [2, 3, 5] (fun nv dv iv wr => ∃ (i k : Nat), nv = .int .i64 ((dval (D.take k) : Nat) : Int) ∧ dv = .int .i64 0 ∧ iv = .int .i64 (i : Int) ∧ RowKit.Hid (i = 0 + k) ∧ k ≤ D.length ∧ k ≤ 9 ∧ wr = w) (fun _ _ iv _ => S.size - (intOf iv).toNat)
  case atStart => exact ⟨0, 0, rfl, rfl, rfl, rfl, Nat.zero_le _, by decide, rfl⟩
  case round =>
    obtain ⟨i, k, rfl, rfl, rfl, hik, hkD, hk9, rfl⟩ := hrel
    by_cases hkl : k < D.length
    · obtain ⟨u, hu⟩ : ∃ u, D[k]? = some u := ⟨_, List.getElem?_eq_getElem hkl⟩
      have hLu := HB3.out.digits k u hu
      rw [← hik.out] at hLu
      obtain ⟨hiS, hSi⟩ := byte_at HLL.out hLu
      have hdu : IsDg u := HB3.out.allD u (List.mem_of_getElem? hu)
      have hn47 : ¬ (u.toNat : Int) = 47 := by unfold IsDg at hdu; omega
      have hu1 : 48 ≤ (u.toNat : Int) := by unfold IsDg at hdu; omega
      have hu2 : (u.toNat : Int) ≤ 57 := by unfold IsDg at hdu; omega
      have hst := dval_take_succ hu
      have hv := dval_take_lt HB3.out.allD hk9
      obtain ⟨v, hvv⟩ : ∃ v, dval (D.take k) = v := ⟨_, rfl⟩
      rw [hvv] at hst hv ⊢
      have HST := Lib.hid hst; clear hst hLu hu hdu hvv
      by_cases h9 : k = 9
      · have hfin : ¬ (D.length ≤ 9 ∧ (q.den = 1 ∨ E.length ≤ 9)) := by omega
        have hr := HR.out
        rw [if_neg hfin] at hr
        clear hfin
        have hw9 : ((i : Int) - 0) = 9 := by have := hik.out; omega
        go_wp2_with fail
        go_ret3
        exact ⟨congrArg Ending.returned hr, rfl⟩
      · have hw9 : ¬ ((i : Int) - 0) = 9 := by have := hik.out; omega
        go_wp2_with fail
        exact ⟨⟨i + 1, k + 1, by rw [HST.out]; congr 1; omega, rfl, by congr 1, Lib.hid (by have := hik.out; omega), hkl, by omega, trivial⟩, by simp [intOf]; omega⟩
    · obtain rfl : k = D.length := by omega
      rw [List.take_length] at *
      have hvb := dval_take_lt HB3.out.allD hk9
      rw [List.take_length] at hvb
      obtain ⟨v, hvv⟩ : ∃ v, dval D = v := ⟨_, rfl⟩
      rw [hvv] at hvb HVN ⊢
      clear hvv
      cases hone : one with
      | true =>
        have hlast := HB3.out.last hone
        have hd1 : q.den = 1 := of_decide_eq_true (HON.out.trans hone)
        have hiS : i = S.size := by have := hik.out; omega
        have hfin : D.length ≤ 9 ∧ (q.den = 1 ∨ E.length ≤ 9) := ⟨hk9, Or.inl hd1⟩
        have hr := HR.out
        rw [if_pos hfin] at hr
        clear hfin hlast HON HB3
        subst hone
        clear hkl
        have hvq : q.num = (v : Int) := by have := HVN.out; omega
        rw [hvq, hd1] at hr
        clear hvq hd1
        go_wp2_with fail
        go_ret3
        exact ⟨congrArg Ending.returned hr, rfl⟩
      | false =>
        obtain ⟨hsl, hll, hee⟩ := HB3.out.slash hone
        rw [← hik.out] at hsl
        obtain ⟨hiS, hSi⟩ := byte_at HLL.out hsl
        have h47 : ((47 : UInt8).toNat : Int) = 47 := rfl
        have hd1 : ¬ q.den = 1 := of_decide_eq_false (HON.out.trans hone)
        have hll2 : S.size = i + 1 + E.length := by have := hik.out; omega
        have hvq : q.num = (v : Int) := by have := HVN.out; omega
        have HVQ := Lib.hid hvq; clear hvq
        have HEE := Lib.hid hee; clear hee hll hsl
        have HALLE := Lib.hid HB3.out.allE
        have HLEN2 := Lib.hid hik.out
        have hDnine : D.length ≤ 9 := hk9
        clear HB3 hkl
        go_wp2_with fail
        go_loopw [2, 3, 5] (fun nv dv iv wx => ∃ (i2 k2 : Nat), nv = .int .i64 ((v : Int)) ∧ dv = .int .i64 ((dval (E.take k2) : Nat) : Int) ∧ iv = .int .i64 (i2 : Int) ∧ RowKit.Hid (i2 = i + 1 + k2) ∧ k2 ≤ E.length ∧ k2 ≤ 9 ∧ wx = wr) (fun _ _ iv _ => S.size - (intOf iv).toNat)
        case atStart => exact ⟨i + 1, 0, by congr 1, rfl, by congr 1, rfl, Nat.zero_le _, by decide, rfl⟩
        case round =>
          obtain ⟨i2, k2, rfl, rfl, rfl, hik2, hkE, hk29, rfl⟩ := hrel
          by_cases hkl : k2 < E.length
          · obtain ⟨u, hu⟩ : ∃ u, E[k2]? = some u := ⟨_, List.getElem?_eq_getElem hkl⟩
            have hLu := HEE.out k2 u hu
            rw [← HLEN2.out, ← hik2.out] at hLu
            obtain ⟨hi2S, hSi2⟩ := byte_at HLL.out hLu
            have hdu : IsDg u := HALLE.out u (List.mem_of_getElem? hu)
            have hu1 : 48 ≤ (u.toNat : Int) := by unfold IsDg at hdu; omega
            have hu2 : (u.toNat : Int) ≤ 57 := by unfold IsDg at hdu; omega
            have hst := dval_take_succ hu
            have hv := dval_take_lt HALLE.out hk29
            obtain ⟨v2, hvv⟩ : ∃ v2, dval (E.take k2) = v2 := ⟨_, rfl⟩
            rw [hvv] at hst hv ⊢
            have HST := Lib.hid hst; clear hst hLu hu hdu hvv
            by_cases h9 : k2 = 9
            · have hfin : ¬ (D.length ≤ 9 ∧ (q.den = 1 ∨ E.length ≤ 9)) := fun h => by rcases h.2 with h | h; exact hd1 h; omega
              have hr := HR.out
              rw [if_neg hfin] at hr
              clear hfin
              have hw9 : ((i2 : Int) - ((i : Int) + 1)) = 9 := by have := hik2.out; omega
              go_wp2_with fail
              go_ret3
              exact ⟨congrArg Ending.returned hr, rfl⟩
            · have hw9 : ¬ ((i2 : Int) - ((i : Int) + 1)) = 9 := by have := hik2.out; omega
              go_wp2_with fail
              exact ⟨⟨i2 + 1, k2 + 1, rfl, by rw [HST.out]; congr 1; omega, by congr 1, Lib.hid (by have := hik2.out; omega), hkl, by omega, trivial⟩, by simp [intOf]; omega⟩
          · obtain rfl : k2 = E.length := by omega
            rw [List.take_length] at *
            have hiS2 : i2 = S.size := by have := hik2.out; omega
            have hfin : D.length ≤ 9 ∧ (q.den = 1 ∨ E.length ≤ 9) := ⟨hDnine, Or.inr hk29⟩
            have hr := HR.out
            rw [if_pos hfin, HVQ.out, ← HVE.out] at hr
            clear hfin hkl hd1 hll2
            go_wp2_with fail
            go_ret3
            exact ⟨congrArg Ending.returned hr, rfl⟩

set_option maxRecDepth 100000 in
set_option maxHeartbeats 1000000 in
theorem rquick_neg (q : Rat) (hn : q.num < 0) (hs : (rtl q).length ≤ 4294967280) (w : World) :
    Calls Tryz.prog 99 #[.string (rtxt q)] w fun e w' => e = .returned (if (Lib.decDigits q.num.natAbs).length ≤ 9 ∧ (q.den = 1 ∨ (Lib.decDigits q.den).length ≤ 9) then .tuple #[.int .i64 q.num, .int .i64 q.den, .bool true] else .tuple #[.int .i64 0, .int .i64 0, .bool false]) ∧ w' = w := by
  have hb3 := bytes3_rtl q 1 (by simp [hn])
  have hp := rtxt_pos q
  have hsz := rtxt_size q
  have hf : (((rtxt q)[0]'hp).toNat = 45) ↔ q.num < 0 := rtxt_first q hp
  obtain ⟨u0, hu0⟩ : ∃ u, (rtxt q)[0]'hp = u := ⟨_, rfl⟩
  rw [hu0] at hf
  have hf' : (u0.toNat : Int) = 45 := by
    have := hf.2 hn; omega
  have hvn : ((dval (Lib.decDigits q.num.natAbs) : Nat) : Int) = -q.num := by rw [dval_dec]; omega
  have hve : dval (Lib.decDigits q.den) = q.den := dval_dec _
  have hlen2 : (rtl q).length = (rtxt q).size := hsz.symm
  have hlist := rtxt_list q
  clear hf hn
  generalize hD : Lib.decDigits q.num.natAbs = D at hb3 hvn ⊢
  generalize hE : Lib.decDigits q.den = E at hb3 hve ⊢
  clear hD hE
  obtain ⟨r, hr⟩ : ∃ r : Value, (if D.length ≤ 9 ∧ (q.den = 1 ∨ E.length ≤ 9) then Value.tuple #[.int .i64 q.num, .int .i64 q.den, .bool true] else .tuple #[.int .i64 0, .int .i64 0, .bool false]) = r := ⟨_, rfl⟩
  rw [hr]
  have HR := Lib.hid hr; clear hr
  generalize hS : rtxt q = S at hp hsz hu0 hlen2 hlist ⊢
  clear hS
  obtain ⟨one, hone⟩ : ∃ one, decide (q.den = 1) = one := ⟨_, rfl⟩
  rw [hone] at hb3
  have HB3 := Lib.hid hb3; clear hb3
  have HON := Lib.hid hone; clear hone
  have HVN := Lib.hid hvn; clear hvn
  have HVE := Lib.hid hve; clear hve
  have HLL := Lib.hid hlist; clear hlist
  have hSb : S.size ≤ 4294967280 := by omega
  clear hsz
  go_enter Tryz.func99, Tryz.ntmps99
  go_wp2_with fail
  go_loopw [2, 3, 5] (fun nv dv iv wr => ∃ (i k : Nat), nv = .int .i64 ((dval (D.take k) : Nat) : Int) ∧ dv = .int .i64 0 ∧ iv = .int .i64 (i : Int) ∧ RowKit.Hid (i = 1 + k) ∧ k ≤ D.length ∧ k ≤ 9 ∧ wr = w) (fun _ _ iv _ => S.size - (intOf iv).toNat)
  case atStart => exact ⟨1, 0, rfl, rfl, rfl, rfl, Nat.zero_le _, by decide, rfl⟩
  case round =>
    obtain ⟨i, k, rfl, rfl, rfl, hik, hkD, hk9, rfl⟩ := hrel
    by_cases hkl : k < D.length
    · obtain ⟨u, hu⟩ : ∃ u, D[k]? = some u := ⟨_, List.getElem?_eq_getElem hkl⟩
      have hLu := HB3.out.digits k u hu
      rw [← hik.out] at hLu
      obtain ⟨hiS, hSi⟩ := byte_at HLL.out hLu
      have hdu : IsDg u := HB3.out.allD u (List.mem_of_getElem? hu)
      have hn47 : ¬ (u.toNat : Int) = 47 := by unfold IsDg at hdu; omega
      have hu1 : 48 ≤ (u.toNat : Int) := by unfold IsDg at hdu; omega
      have hu2 : (u.toNat : Int) ≤ 57 := by unfold IsDg at hdu; omega
      have hst := dval_take_succ hu
      have hv := dval_take_lt HB3.out.allD hk9
      obtain ⟨v, hvv⟩ : ∃ v, dval (D.take k) = v := ⟨_, rfl⟩
      rw [hvv] at hst hv ⊢
      have HST := Lib.hid hst; clear hst hLu hu hdu hvv
      by_cases h9 : k = 9
      · have hfin : ¬ (D.length ≤ 9 ∧ (q.den = 1 ∨ E.length ≤ 9)) := by omega
        have hr := HR.out
        rw [if_neg hfin] at hr
        clear hfin
        have hw9 : ((i : Int) - 1) = 9 := by have := hik.out; omega
        go_wp2_with fail
        go_ret3
        exact ⟨congrArg Ending.returned hr, rfl⟩
      · have hw9 : ¬ ((i : Int) - 1) = 9 := by have := hik.out; omega
        go_wp2_with fail
        exact ⟨⟨i + 1, k + 1, by rw [HST.out]; congr 1; omega, rfl, by congr 1, Lib.hid (by have := hik.out; omega), hkl, by omega, trivial⟩, by simp [intOf]; omega⟩
    · obtain rfl : k = D.length := by omega
      rw [List.take_length] at *
      have hvb := dval_take_lt HB3.out.allD hk9
      rw [List.take_length] at hvb
      obtain ⟨v, hvv⟩ : ∃ v, dval D = v := ⟨_, rfl⟩
      rw [hvv] at hvb HVN ⊢
      clear hvv
      cases hone : one with
      | true =>
        have hlast := HB3.out.last hone
        have hd1 : q.den = 1 := of_decide_eq_true (HON.out.trans hone)
        have hiS : i = S.size := by have := hik.out; omega
        have hfin : D.length ≤ 9 ∧ (q.den = 1 ∨ E.length ≤ 9) := ⟨hk9, Or.inl hd1⟩
        have hr := HR.out
        rw [if_pos hfin] at hr
        clear hfin hlast HON HB3
        subst hone
        clear hkl
        have hvq : q.num = -(v : Int) := by have := HVN.out; omega
        rw [hvq, hd1] at hr
        clear hvq hd1
        go_wp2_with fail
        go_ret3
        exact ⟨congrArg Ending.returned hr, rfl⟩
      | false =>
        obtain ⟨hsl, hll, hee⟩ := HB3.out.slash hone
        rw [← hik.out] at hsl
        obtain ⟨hiS, hSi⟩ := byte_at HLL.out hsl
        have h47 : ((47 : UInt8).toNat : Int) = 47 := rfl
        have hd1 : ¬ q.den = 1 := of_decide_eq_false (HON.out.trans hone)
        have hll2 : S.size = i + 1 + E.length := by have := hik.out; omega
        have hvq : q.num = -(v : Int) := by have := HVN.out; omega
        have HVQ := Lib.hid hvq; clear hvq
        have HEE := Lib.hid hee; clear hee hll hsl
        have HALLE := Lib.hid HB3.out.allE
        have HLEN2 := Lib.hid hik.out
        have hDnine : D.length ≤ 9 := hk9
        clear HB3 hkl
        go_wp2_with fail
        go_loopw [2, 3, 5] (fun nv dv iv wx => ∃ (i2 k2 : Nat), nv = .int .i64 (-(v : Int)) ∧ dv = .int .i64 ((dval (E.take k2) : Nat) : Int) ∧ iv = .int .i64 (i2 : Int) ∧ RowKit.Hid (i2 = i + 1 + k2) ∧ k2 ≤ E.length ∧ k2 ≤ 9 ∧ wx = wr) (fun _ _ iv _ => S.size - (intOf iv).toNat)
        case atStart => exact ⟨i + 1, 0, by congr 1, rfl, by congr 1, rfl, Nat.zero_le _, by decide, rfl⟩
        case round =>
          obtain ⟨i2, k2, rfl, rfl, rfl, hik2, hkE, hk29, rfl⟩ := hrel
          by_cases hkl : k2 < E.length
          · obtain ⟨u, hu⟩ : ∃ u, E[k2]? = some u := ⟨_, List.getElem?_eq_getElem hkl⟩
            have hLu := HEE.out k2 u hu
            rw [← HLEN2.out, ← hik2.out] at hLu
            obtain ⟨hi2S, hSi2⟩ := byte_at HLL.out hLu
            have hdu : IsDg u := HALLE.out u (List.mem_of_getElem? hu)
            have hu1 : 48 ≤ (u.toNat : Int) := by unfold IsDg at hdu; omega
            have hu2 : (u.toNat : Int) ≤ 57 := by unfold IsDg at hdu; omega
            have hst := dval_take_succ hu
            have hv := dval_take_lt HALLE.out hk29
            obtain ⟨v2, hvv⟩ : ∃ v2, dval (E.take k2) = v2 := ⟨_, rfl⟩
            rw [hvv] at hst hv ⊢
            have HST := Lib.hid hst; clear hst hLu hu hdu hvv
            by_cases h9 : k2 = 9
            · have hfin : ¬ (D.length ≤ 9 ∧ (q.den = 1 ∨ E.length ≤ 9)) := fun h => by rcases h.2 with h | h; exact hd1 h; omega
              have hr := HR.out
              rw [if_neg hfin] at hr
              clear hfin
              have hw9 : ((i2 : Int) - ((i : Int) + 1)) = 9 := by have := hik2.out; omega
              go_wp2_with fail
              go_ret3
              exact ⟨congrArg Ending.returned hr, rfl⟩
            · have hw9 : ¬ ((i2 : Int) - ((i : Int) + 1)) = 9 := by have := hik2.out; omega
              go_wp2_with fail
              exact ⟨⟨i2 + 1, k2 + 1, rfl, by rw [HST.out]; congr 1; omega, by congr 1, Lib.hid (by have := hik2.out; omega), hkl, by omega, trivial⟩, by simp [intOf]; omega⟩
          · obtain rfl : k2 = E.length := by omega
            rw [List.take_length] at *
            have hiS2 : i2 = S.size := by have := hik2.out; omega
            have hfin : D.length ≤ 9 ∧ (q.den = 1 ∨ E.length ≤ 9) := ⟨hDnine, Or.inr hk29⟩
            have hr := HR.out
            rw [if_pos hfin, HVQ.out, ← HVE.out] at hr
            clear hfin hkl hd1 hll2
            go_wp2_with fail
            go_ret3
            exact ⟨congrArg Ending.returned hr, rfl⟩

/-- quick: numerator and denominator, where both have at most nine digits. -/
theorem rquick_any (q : Rat) (hs : (rtl q).length ≤ 4294967280) (w : World) :
    Calls Tryz.prog 99 #[.string (rtxt q)] w fun e w' => e = .returned (if (Lib.decDigits q.num.natAbs).length ≤ 9 ∧ (q.den = 1 ∨ (Lib.decDigits q.den).length ≤ 9) then .tuple #[.int .i64 q.num, .int .i64 q.den, .bool true] else .tuple #[.int .i64 0, .int .i64 0, .bool false]) ∧ w' = w := by
  by_cases hn : q.num < 0
  · exact rquick_neg q hn hs w
  · exact rquick_pos q hn hs w
end Go.Proofs.YtgfgpepdkffhbaaGreatDoor.Kl
namespace Go.Proofs.YtgfgpepdkffhbaaGreatDoor.Kl
open Go.RowKit Go.Shelf
set_option linter.unusedVariables false
set_option linter.unusedSimpArgs false

theorem tdiv_gcd_left {n d : Int} {g : Int} (hg : ((Nat.gcd n.natAbs d.natAbs : Nat) : Int) = g) : n.tdiv g = n / g := by
  apply Int.tdiv_eq_ediv_of_dvd
  rw [← hg]; exact Int.ofNat_dvd_left.2 (Nat.gcd_dvd_left _ _)
theorem tdiv_gcd_right {n d : Int} {g : Int} (hg : ((Nat.gcd n.natAbs d.natAbs : Nat) : Int) = g) : d.tdiv g = d / g := by
  apply Int.tdiv_eq_ediv_of_dvd
  rw [← hg]; exact Int.ofNat_dvd_left.2 (Nat.gcd_dvd_right _ _)

theorem div_natAbs_le (x g : Int) : (x / g).natAbs ≤ x.natAbs := Int.natAbs_ediv_le_natAbs x g

set_option maxHeartbeats 1000000 in
theorem rsmall_any (n d : Int) (hd : 0 < d) (hn : n.natAbs ≤ 1000000000000000000) (hdl : d.natAbs ≤ 1000000000000000000) (w : World) (hW : Wd w) :
    Calls Tryz.prog 100 #[.int .i64 n, .int .i64 d] w fun e w' => e = .returned (.string (rtxt (Rat.divInt n d))) ∧ Below w.heap.size w w' := by
  have hgp : 0 < Nat.gcd n.natAbs d.natAbs := Nat.gcd_pos_of_pos_right _ (by omega)
  have hgle : Nat.gcd n.natAbs d.natAbs ≤ d.natAbs := Nat.gcd_le_right _ (by omega)
  obtain ⟨g, hg⟩ : ∃ g : Nat, Nat.gcd n.natAbs d.natAbs = g := ⟨_, rfl⟩
  have hgz : ((Nat.gcd n.natAbs d.natAbs : Nat) : Int) = (g : Int) := by rw [hg]
  have hlp := lowest_plain hd g hgz
  have hr : rtxt (Rat.divInt n d) = ⟨(jtl (n / g) (d / g)).toArray⟩ := by unfold rtxt; rw [hlp]
  have ht1 := tdiv_gcd_left hgz
  have ht2 := tdiv_gcd_right hgz
  have hl1 := div_natAbs_le n g
  have hl2 := div_natAbs_le d g
  rw [hg] at hgp hgle
  obtain ⟨n', hn'⟩ : ∃ n', n / (g : Int) = n' := ⟨_, rfl⟩
  obtain ⟨d', hd'⟩ : ∃ d', d / (g : Int) = d' := ⟨_, rfl⟩
  rw [hn'] at ht1 hl1 hr
  rw [hd'] at ht2 hl2 hr
  rw [hr]
  have HG := Lib.hid hg
  have HT1 := Lib.hid ht1
  have HT2 := Lib.hid ht2
  clear hg hgz hlp hr hn' hd' ht1 ht2
  have b1 : -1000000000000000000 ≤ n' := by omega
  have b2 : n' ≤ 1000000000000000000 := by omega
  have b3 : -1000000000000000000 ≤ d' := by omega
  have b4 : d' ≤ 1000000000000000000 := by omega
  clear hl1 hl2
  go_enter Tryz.func100, Tryz.ntmps100
  go_wp2_with fail
  go_loopw [5, 6] (fun v u wr => ∃ a b : Int, v = .int .i64 a ∧ u = .int .i64 b ∧ a.natAbs ≤ 1000000000000000000 ∧ b.natAbs ≤ 1000000000000000000 ∧ RowKit.Hid (Nat.gcd a.natAbs b.natAbs = g) ∧ Below w.heap.size w wr) (fun _ u _ => (intOf u).natAbs)
  case atStart => exact ⟨n, d, rfl, rfl, hn, hdl, HG, Below.refl _ _⟩
  case round =>
    obtain ⟨a, b, rfl, rfl, ha, hb, hgcd, hbel⟩ := hrel
    by_cases hb0 : b = 0
    · subst hb0
      have hv : a = (g : Int) ∨ a = -(g : Int) := by
        have := hgcd.out
        simp at this
        omega
      rcases hv with rfl | rfl
      · go_wp2_with fail
        have ht1 := HT1.out
        have ht2 := HT2.out
        have hgne : ¬ (g : Int) = 0 := by omega
        have hWr := hW.below hbel
        go_region
        clear ht1 ht2
        by_cases hone : d' = 1
        · have hj : txt n' = ⟨(jtl n' d').toArray⟩ := by unfold jtl; rw [if_pos hone]; rfl
          have HJ := Lib.hid hj; clear hj
          have hit := itoa_any n' (by omega) (by omega) wr.drew hWr.drew
          go_wp2_with (with_reducible refine Calls.mono hit ?_; rintro e w2 ⟨rfl, hb2⟩)
          go_ret
          exact ⟨congrArg (fun t => Ending.returned (.string t)) HJ.out, hbel.drew.trans (hb2.mono hbel.size)⟩
        · have hj : (txt n' ++ ⟨#[47]⟩) ++ txt d' = (⟨(jtl n' d').toArray⟩ : ByteArray) := by
            apply bytes_ext
            unfold jtl
            rw [if_neg hone]
            simp [ByteArray.data_append, txt]
          have HJ := Lib.hid hj; clear hj
          have hit := itoa_any n' (by omega) (by omega) wr.drew hWr.drew
          have s1 := txt_size n'
          have s2 := txt_size d'
          have s3 : (Lib.itoa n').length ≤ 21 := itoa_len_le (k := 20) (by omega) (by decide)
          have s4 : (Lib.itoa d').length ≤ 21 := itoa_len_le (k := 20) (by omega) (by decide)
          have hbd : ∀ w2, Below wr.drew.heap.size wr.drew w2 → Below w.heap.size w w2 := fun w2 h => hbel.drew.trans (h.mono hbel.size)
          go_wp2_with (first
            | (with_reducible refine Calls.mono hit ?_; rintro e w2 ⟨rfl, hb2⟩; have hB2 := hbd w2 hb2; have hit2 := itoa_any d' (by omega) (by omega) w2 (hW.below hB2))
            | (with_reducible refine Calls.mono hit2 ?_; rintro e w3 ⟨rfl, hb3⟩))
          go_ret
          exact ⟨congrArg (fun t => Ending.returned (.string t)) HJ.out, hB2.trans (hb3.mono hB2.size)⟩
      · go_wp2_with fail
        have ht1 := HT1.out
        have ht2 := HT2.out
        have hgne : ¬ (g : Int) = 0 := by omega
        have hWr := hW.below hbel
        go_region
        clear ht1 ht2
        by_cases hone : d' = 1
        · have hj : txt n' = ⟨(jtl n' d').toArray⟩ := by unfold jtl; rw [if_pos hone]; rfl
          have HJ := Lib.hid hj; clear hj
          have hit := itoa_any n' (by omega) (by omega) wr.drew hWr.drew
          go_wp2_with (with_reducible refine Calls.mono hit ?_; rintro e w2 ⟨rfl, hb2⟩)
          go_ret
          exact ⟨congrArg (fun t => Ending.returned (.string t)) HJ.out, hbel.drew.trans (hb2.mono hbel.size)⟩
        · have hj : (txt n' ++ ⟨#[47]⟩) ++ txt d' = (⟨(jtl n' d').toArray⟩ : ByteArray) := by
            apply bytes_ext
            unfold jtl
            rw [if_neg hone]
            simp [ByteArray.data_append, txt]
          have HJ := Lib.hid hj; clear hj
          have hit := itoa_any n' (by omega) (by omega) wr.drew hWr.drew
          have s1 := txt_size n'
          have s2 := txt_size d'
          have s3 : (Lib.itoa n').length ≤ 21 := itoa_len_le (k := 20) (by omega) (by decide)
          have s4 : (Lib.itoa d').length ≤ 21 := itoa_len_le (k := 20) (by omega) (by decide)
          have hbd : ∀ w2, Below wr.drew.heap.size wr.drew w2 → Below w.heap.size w w2 := fun w2 h => hbel.drew.trans (h.mono hbel.size)
          go_wp2_with (first
            | (with_reducible refine Calls.mono hit ?_; rintro e w2 ⟨rfl, hb2⟩; have hB2 := hbd w2 hb2; have hit2 := itoa_any d' (by omega) (by omega) w2 (hW.below hB2))
            | (with_reducible refine Calls.mono hit2 ?_; rintro e w3 ⟨rfl, hb3⟩))
          go_ret
          exact ⟨congrArg (fun t => Ending.returned (.string t)) HJ.out, hB2.trans (hb3.mono hB2.size)⟩
    · have hne : ((b : Int) != 0) = true := by simpa using hb0
      go_wp2_with fail
      have hst := gcd_step hgcd.out
      have HST := Lib.hid hst; clear hst
      have hr1 : (a.tmod b).natAbs < b.natAbs := by
        rw [Int.natAbs_tmod]; exact Nat.mod_lt _ (by omega)
      have HR1 := Lib.hid hr1; clear hr1
      go_region
      go_wp2_with fail
      refine ⟨⟨b, a.tmod b, rfl, rfl, hb, Nat.le_trans (Nat.le_of_lt HR1.out) hb, HST, hbel.drew⟩, by simpa [intOf] using HR1.out⟩

theorem rtl_one : rtl 1 = [49] := by
  unfold rtl jtl
  rw [if_pos (by rfl)]; exact itoa_one
theorem rtxt_is_one (q : Rat) : ((rtxt q).toList == [49]) = decide (q = 1) := by
  rw [ByteArray.toList_eq, rtxt_list]
  by_cases h : q = 1
  · subst h; rw [rtl_one]; simp
  · have : rtl q ≠ [49] := fun e => h (rtl_inj (q := 1) (by rw [e, rtl_one]))
    simp [h, this]
theorem rtxt_zero : rtxt 0 = ⟨#[48]⟩ := by apply bytes_ext; rw [rtxt_list, rtl_zero]
theorem rtxt_one : rtxt 1 = ⟨#[49]⟩ := by apply bytes_ext; rw [rtxt_list, rtl_one]

theorem mul_divInt (a b : Rat) : Rat.divInt (a.num * b.num) ((a.den : Int) * (b.den : Int)) = a * b := by
  rw [Rat.mul_def', ← Int.natCast_mul, Rat.divInt_ofNat]

/-- a number whose parts have at most so many bytes. -/
def Sz (q : Rat) (k : Nat) : Prop := (Lib.itoa q.num).length ≤ k ∧ (Lib.itoa (q.den : Int)).length ≤ k
theorem Sz.rtl {q : Rat} {k : Nat} (h : Sz q k) : (rtl q).length ≤ 2 * k + 1 := by
  have := rtl_len q
  have h1 := h.1
  have h2 := h.2
  omega
def Short (q : Rat) : Prop := (Lib.decDigits q.num.natAbs).length ≤ 9 ∧ (q.den = 1 ∨ (Lib.decDigits q.den).length ≤ 9)
theorem Short.num {q : Rat} (h : Short q) : q.num.natAbs < 1000000000 :=
  Nat.lt_of_lt_of_le (dec_lt _) (Nat.pow_le_pow_right (by decide) h.1)
theorem Short.den {q : Rat} (h : Short q) : q.den < 1000000000 := by
  rcases h.2 with h | h
  · omega
  · exact Nat.lt_of_lt_of_le (dec_lt _) (Nat.pow_le_pow_right (by decide) h)

theorem rquick_yes (q : Rat) (hs : (rtl q).length ≤ 4294967280) (h : Short q) (w : World) :
    Calls Tryz.prog 99 #[.string (rtxt q)] w fun e w' => e = .returned (.tuple #[.int .i64 q.num, .int .i64 q.den, .bool true]) ∧ w' = w := by
  refine (rquick_any q hs w).mono ?_
  rintro e w' ⟨rfl, rfl⟩
  exact ⟨congrArg Ending.returned (if_pos h), rfl⟩
theorem rquick_no (q : Rat) (hs : (rtl q).length ≤ 4294967280) (h : ¬ Short q) (w : World) :
    Calls Tryz.prog 99 #[.string (rtxt q)] w fun e w' => e = .returned (.tuple #[.int .i64 0, .int .i64 0, .bool false]) ∧ w' = w := by
  refine (rquick_any q hs w).mono ?_
  rintro e w' ⟨rfl, rfl⟩
  exact ⟨congrArg Ending.returned (if_neg h), rfl⟩

theorem short_prod {a b : Rat} (ha : Short a) (hb : Short b) : (a.num * b.num).natAbs ≤ 1000000000000000000 ∧ ((a.den : Int) * (b.den : Int)).natAbs ≤ 1000000000000000000 := by
  have h1 := Nat.mul_lt_mul'' ha.num hb.num
  have h2 := Nat.mul_lt_mul'' ha.den hb.den
  rw [Int.natAbs_mul]
  rw [← Int.natCast_mul, Int.natAbs_natCast]
  omega

set_option maxHeartbeats 1000000 in
theorem rmul_main (a b : Rat) (ha : Sz a 900000) (hb : Sz b 900000) (ha0 : a.num ≠ 0) (hb0 : b.num ≠ 0) (ha1 : a ≠ 1) (hb1 : b ≠ 1) (w : World) (hW : Wd w) :
    Calls Tryz.prog 60 #[.string (rtxt a), .string (rtxt b)] w fun e w' => e = .returned (.string (rtxt (a * b))) ∧ Below w.heap.size w w' := by
  have za := rtxt_is_zero a
  have zb := rtxt_is_zero b
  have oa := rtxt_is_one a
  have ob := rtxt_is_one b
  rw [decide_eq_false ha0] at za
  rw [decide_eq_false hb0] at zb
  rw [decide_eq_false ha1] at oa
  rw [decide_eq_false hb1] at ob
  have hmd := mul_divInt a b
  have hda := a.den_pos
  have hdb := b.den_pos
  have hdp : 0 < (a.den : Int) * (b.den : Int) := Int.mul_pos (by omega) (by omega)
  have hra := ha.rtl
  have hrb := hb.rtl
  have hpa := fun w hW => parts_any a (by omega) w hW
  have hpb := fun w hW => parts_any b (by omega) w hW
  have hl1 := itoa_mul_le ha.1 hb.1 (by decide)
  have hl2 := itoa_mul_le ha.2 hb.2 (by decide)
  have hm1 := fun w hW => mul_any a.num b.num w hW (by have := ha.1; omega) (by have := hb.1; omega)
  have hm2 := fun w hW => mul_any (a.den : Int) (b.den : Int) w hW (by have := ha.2; omega) (by have := hb.2; omega)
  have hlo := fun w hW => lowest_pos (a.num * b.num) ((a.den : Int) * (b.den : Int)) hdp (by omega) (by omega) w hW
  rw [hmd] at hlo
  have hdk : ∀ k j, Below w.heap.size w (w.drewN (k + j)) := fun k j => below_drewN (Below.refl _ w) (k + j)
  clear ha0 hb0 ha1 hb1
  have hA := hpa w hW
  have htr : ∀ a b c : World, Below a.heap.size a b → Below b.heap.size b c → Below a.heap.size a c := fun a b c h1 h2 => h1.trans (h2.mono h1.size)
  by_cases hsa : Short a
  · have hqa := rquick_yes a (by omega) hsa w
    by_cases hsb : Short b
    · have hqb := rquick_yes b (by omega) hsb w
      obtain ⟨p1, p2⟩ := short_prod hsa hsb
      have hsm := rsmall_any (a.num * b.num) ((a.den : Int) * (b.den : Int)) hdp p1 p2 w hW
      rw [hmd] at hsm
      have e1 : wrap64 (a.num * b.num) = a.num * b.num := IntWalk.wrap64_in _ ⟨by omega, by omega⟩
      have e2 : wrap64 ((a.den : Int) * (b.den : Int)) = (a.den : Int) * (b.den : Int) := IntWalk.wrap64_in _ ⟨by omega, by omega⟩
      clear hmd hdp p1 p2 hsa hsb
      go_enter Tryz.func60, Tryz.ntmps60
      go_wp2_with (first
        | (with_reducible refine Calls.mono hqa ?_; rintro e w1 ⟨rfl, hw1⟩; replace hw1 := hw1.symm; subst hw1)
        | (with_reducible refine Calls.mono hqb ?_; rintro e w1 ⟨rfl, hw1⟩; replace hw1 := hw1.symm; subst hw1)
        | (with_reducible refine Calls.mono hsm ?_; rintro e w1 ⟨rfl, hb2⟩))
      go_ret
      exact ⟨rfl, hb2⟩
    · have hqb := rquick_no b (by omega) hsb w
      clear hmd hdp hsa hsb
      go_enter Tryz.func60, Tryz.ntmps60
      go_wp2_with (first
        | (with_reducible refine Calls.mono hqa ?_; rintro e w1 ⟨rfl, hw1⟩; replace hw1 := hw1.symm; subst hw1)
        | (with_reducible refine Calls.mono hqb ?_; rintro e w1 ⟨rfl, hw1⟩; replace hw1 := hw1.symm; subst hw1)
        | (with_reducible refine Calls.mono hA ?_; rintro e w1 ⟨rfl, k, rfl⟩; have hB := hpb (w.drewN k) (hW.drewN k))
        | (with_reducible refine Calls.mono hB ?_; rintro e w2 ⟨rfl, j, rfl⟩; have hWj := hW.drewN (k + j); have hC := hm1 (w.drewN (k + j)) hWj; have hBj := hdk k j)
        | (with_reducible refine Calls.mono hC ?_; rintro e w3 ⟨rfl, hb3⟩; have hB3 := htr _ _ _ hBj hb3; have hD := hm2 w3 (hW.below hB3))
        | (with_reducible refine Calls.mono hD ?_; rintro e w4 ⟨rfl, hb4⟩; have hB4 := htr _ _ _ hB3 hb4; have hE := hlo w4 (hW.below hB4))
        | (with_reducible refine Calls.mono hE ?_; rintro e w5 ⟨rfl, hb5⟩))
      go_ret
      exact ⟨rfl, htr _ _ _ hB4 hb5⟩
  · have hqa := rquick_no a (by omega) hsa w
    · clear hmd hdp hsa
      go_enter Tryz.func60, Tryz.ntmps60
      go_wp2_with (first
        | (with_reducible refine Calls.mono hqa ?_; rintro e w1 ⟨rfl, hw1⟩; replace hw1 := hw1.symm; subst hw1)
        | (with_reducible refine Calls.mono hA ?_; rintro e w1 ⟨rfl, k, rfl⟩; have hB := hpb (w.drewN k) (hW.drewN k))
        | (with_reducible refine Calls.mono hB ?_; rintro e w2 ⟨rfl, j, rfl⟩; have hWj := hW.drewN (k + j); have hC := hm1 (w.drewN (k + j)) hWj; have hBj := hdk k j)
        | (with_reducible refine Calls.mono hC ?_; rintro e w3 ⟨rfl, hb3⟩; have hB3 := htr _ _ _ hBj hb3; have hD := hm2 w3 (hW.below hB3))
        | (with_reducible refine Calls.mono hD ?_; rintro e w4 ⟨rfl, hb4⟩; have hB4 := htr _ _ _ hB3 hb4; have hE := hlo w4 (hW.below hB4))
        | (with_reducible refine Calls.mono hE ?_; rintro e w5 ⟨rfl, hb5⟩))
      go_ret
      exact ⟨rfl, htr _ _ _ hB4 hb5⟩

/-- Mul. -/
theorem rmul_any (a b : Rat) (ha : Sz a 900000) (hb : Sz b 900000) (w : World) (hW : Wd w) :
    Calls Tryz.prog 60 #[.string (rtxt a), .string (rtxt b)] w fun e w' => e = .returned (.string (rtxt (a * b))) ∧ Below w.heap.size w w' := by
  have za := rtxt_is_zero a
  have zb := rtxt_is_zero b
  have oa := rtxt_is_one a
  have ob := rtxt_is_one b
  by_cases ha0 : a.num = 0
  · rw [decide_eq_true ha0] at za
    rw [Rat.num_eq_zero.1 ha0, Rat.zero_mul, rtxt_zero]
    rw [Rat.num_eq_zero.1 ha0, rtxt_zero] at za
    clear oa ob zb ha0
    go_enter Tryz.func60, Tryz.ntmps60
    go_wp2
    go_ret
    exact ⟨rfl, Below.refl _ _⟩
  by_cases hb0 : b.num = 0
  · rw [decide_eq_false ha0] at za
    rw [decide_eq_true hb0] at zb
    have e : rtxt (a * b) = ⟨#[48]⟩ := by rw [Rat.num_eq_zero.1 hb0, Rat.mul_zero, rtxt_zero]
    rw [e]
    clear oa ob ha0 hb0 e
    go_enter Tryz.func60, Tryz.ntmps60
    go_wp2
    go_ret
    exact ⟨rfl, Below.refl _ _⟩
  by_cases ha1 : a = 1
  · rw [decide_eq_false ha0] at za
    rw [decide_eq_false hb0] at zb
    rw [decide_eq_true ha1] at oa
    have e : rtxt (a * b) = rtxt b := by rw [ha1, Rat.one_mul]
    rw [e]
    clear ob ha0 hb0 e ha1
    go_enter Tryz.func60, Tryz.ntmps60
    go_wp2
    go_ret
    exact ⟨rfl, Below.refl _ _⟩
  by_cases hb1 : b = 1
  · rw [decide_eq_false ha0] at za
    rw [decide_eq_false hb0] at zb
    rw [decide_eq_false ha1] at oa
    rw [decide_eq_true hb1] at ob
    have e : rtxt (a * b) = rtxt a := by rw [hb1, Rat.mul_one]
    rw [e]
    clear ha0 hb0 e ha1 hb1
    go_enter Tryz.func60, Tryz.ntmps60
    go_wp2
    go_ret
    exact ⟨rfl, Below.refl _ _⟩
  exact rmul_main a b ha hb ha0 hb0 ha1 hb1 w hW
end Go.Proofs.YtgfgpepdkffhbaaGreatDoor.Kl
