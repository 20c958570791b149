/- klipperef01: DivMod. klipperef01: Gcd, Power, Root. klipperef03: Parts. klipperef03: Make, Times, Plus, Square, Alike. -/
import Derived.Test.YtgfgpepdkffhbaaGreatDoorRefB
namespace Go.Proofs.YtgfgpepdkffhbaaGreatDoor.Kl
open Go.RowKit Go.Shelf
set_option linter.unusedVariables false
set_option linter.unusedSimpArgs false

/-- Go's quotient and rest, mended where the rest is negative. -/
theorem tdm_pos {x y : Int} (hy : y ≠ 0) (h : ¬ x.tmod y < 0) : x.tdiv y = x / y ∧ x.tmod y = x % y := by
  have e1 := Int.mul_tdiv_add_tmod x y
  have e2 := Int.mul_ediv_add_emod x y
  have h2 : x.tmod y < y.natAbs := by
    have : (x.tmod y).natAbs < y.natAbs := by rw [Int.natAbs_tmod]; exact Nat.mod_lt _ (by omega)
    omega
  have key : ∀ b : Int, 0 < b → ∀ q : Int, b * q + x.tmod y = x → x.tmod y < b → q = x / b ∧ x.tmod y = x % b := fun b hb q hq hlt => by
    have := (Int.ediv_emod_unique (a := x) (b := b) (r := x.tmod y) (q := q) hb).2 ⟨by omega, by omega, hlt⟩
    exact ⟨this.1.symm, this.2.symm⟩
  by_cases hneg : y < 0
  · have := key (-y) (by omega) (-(x.tdiv y)) (by rw [Int.neg_mul_neg]; exact e1) (by omega)
    rw [Int.ediv_neg, Int.emod_neg] at this
    exact ⟨by omega, this.2⟩
  · exact key y (by omega) _ e1 (by omega)
theorem tdm_neg {x y : Int} (hy : y ≠ 0) (h : x.tmod y < 0) : x.tmod y + max y (-y) = x % y ∧ (x - x % y).tdiv y = x / y := by
  have e1 := Int.mul_tdiv_add_tmod x y
  have h2 : -(y.natAbs : Int) < x.tmod y := by
    have : (x.tmod y).natAbs < y.natAbs := by rw [Int.natAbs_tmod]; exact Nat.mod_lt _ (by omega)
    omega
  have key : ∀ b : Int, 0 < b → ∀ q : Int, b * q + (x.tmod y + b) = x → -b < x.tmod y → x.tmod y + b = x % b := fun b hb q hq hlt => by
    have := (Int.ediv_emod_unique (a := x) (b := b) (r := x.tmod y + b) (q := q) hb).2 ⟨by omega, by omega, by omega⟩
    exact this.2.symm
  refine ⟨?_, ?_⟩
  · by_cases hneg : y < 0
    · rw [show max y (-y) = -y by omega]
      have := key (-y) (by omega) (-(x.tdiv y) - 1) (by rw [Int.mul_sub, Int.neg_mul_neg]; omega) (by omega)
      rwa [Int.emod_neg] at this
    · rw [show max y (-y) = y by omega]
      exact key y (by omega) (x.tdiv y - 1) (by rw [Int.mul_sub]; omega) (by omega)
  · have : x - x % y = y * (x / y) := by have := Int.mul_ediv_add_emod x y; omega
    rw [this, Int.mul_tdiv_cancel_left _ hy]

set_option maxHeartbeats 1000000 in
theorem refDivMod_small (x y : Int) (hy0 : y ≠ 0) (hx : DL x 17) (hy : DL y 17) (w : World) (hW : Wd w) :
    Calls Tryz.prog 48 #[.string (txt x), .string (txt y)] w fun e w' => e = .returned (.tuple #[.string (txt (x / y)), .string (txt (x % y))]) ∧ Below w.heap.size w w' := by
  have hx' : (Lib.decDigits x.natAbs).length ≤ 17 := hx
  have hy' : (Lib.decDigits y.natAbs).length ≤ 17 := hy
  have hc1 := brief_yes x hx' w
  have hc2 := fun w => brief_yes y hy' w
  have b1 := hx.lt
  have b2 := hy.lt
  have e17 : (10 : Nat) ^ 17 = 100000000000000000 := rfl
  rw [e17] at b1 b2
  have hq1 : (x / y).natAbs ≤ x.natAbs := Int.natAbs_ediv_le_natAbs x y
  have hr1 : 0 ≤ x % y := Int.emod_nonneg _ hy0
  have hr2 : x % y < y.natAbs := by
    have := Int.emod_lt x hy0
    exact this
  have ho1 := fun w hW => refOf_any (x / y) (by omega) (by omega) w hW
  have ho2 := fun w hW => refOf_any (x % y) (by omega) (by omega) w hW
  have hpos := tdm_pos (x := x) hy0
  have hneg := tdm_neg (x := x) hy0
  obtain ⟨q, hq⟩ : ∃ q, x / y = q := ⟨_, rfl⟩
  obtain ⟨r, hr⟩ : ∃ r, x % y = r := ⟨_, rfl⟩
  rw [hq, hr] at hpos hneg ⊢
  rw [hq] at ho1
  rw [hr] at ho2
  rw [hq] at hq1
  rw [hr] at hr1 hr2
  have xb1 : -100000000000000000 < x := by omega
  have xb2 : x < 100000000000000000 := by omega
  have yb1 : -100000000000000000 < y := by omega
  have yb2 : y < 100000000000000000 := by omega
  have rb : r < 100000000000000000 := by omega
  have qg1 : -100000000000000000 < q := by omega
  have qg2 : q < 100000000000000000 := by omega
  have hyne : (y == 0) = false := by simpa using hy0
  clear hq hr hq1 hr2 b1 b2 e17 hx' hy'
  have htr : ∀ a b c : World, Below a.heap.size a b → Below b.heap.size b c → Below a.heap.size a c := fun a b c h1 h2 => h1.trans (h2.mono h1.size)
  by_cases ht : x.tmod y < 0
  · obtain ⟨t1, t2⟩ := hneg ht
    clear hneg hpos
    have tb1 : -100000000000000000 < x.tmod y := by omega
    obtain ⟨t, htt⟩ : ∃ t, x.tmod y = t := ⟨_, rfl⟩
    obtain ⟨s, hss⟩ : ∃ s, x.tdiv y = s := ⟨_, rfl⟩
    rw [htt] at t1 ht tb1
    go_enter Tryz.func48, Tryz.ntmps48
    go_wp2_with (first
      | (with_reducible refine Calls.mono hc1 ?_; rintro e w1 ⟨rfl, hb1⟩; have hcB := hc2 w1)
      | (with_reducible refine Calls.mono hcB ?_; rintro e w2 ⟨rfl, hb2⟩; have hB2 := htr _ _ _ hb1 hb2))
    go_region
    have hBd : Below w.heap.size w w2.drew := hB2.drew
    have hO1 := ho1 w2.drew (hW.below hBd)
    go_wp2_with (first
      | (with_reducible refine Calls.mono hO1 ?_; rintro e w3 ⟨rfl, hb3⟩; have hB3 := hBd.trans (hb3.mono hBd.size); have hO2 := ho2 w3 (hW.below hB3))
      | (with_reducible refine Calls.mono hO2 ?_; rintro e w4 ⟨rfl, hb4⟩))
    go_ret2
    exact ⟨rfl, hB3.trans (hb4.mono hB3.size)⟩
  · obtain ⟨t1, t2⟩ := hpos ht
    clear hneg hpos
    rw [t2] at ht
    go_enter Tryz.func48, Tryz.ntmps48
    go_wp2_with (first
      | (with_reducible refine Calls.mono hc1 ?_; rintro e w1 ⟨rfl, hb1⟩; have hcB := hc2 w1)
      | (with_reducible refine Calls.mono hcB ?_; rintro e w2 ⟨rfl, hb2⟩; have hB2 := htr _ _ _ hb1 hb2))
    go_region
    have hBd : Below w.heap.size w w2.drew := hB2.drew
    have hO1 := ho1 w2.drew (hW.below hBd)
    go_wp2_with (first
      | (with_reducible refine Calls.mono hO1 ?_; rintro e w3 ⟨rfl, hb3⟩; have hB3 := hBd.trans (hb3.mono hBd.size); have hO2 := ho2 w3 (hW.below hB3))
      | (with_reducible refine Calls.mono hO2 ?_; rintro e w4 ⟨rfl, hb4⟩))
    go_ret2
    exact ⟨rfl, hB3.trans (hb4.mono hB3.size)⟩

theorem made_nat (A : Option Addr) (n c : Nat) (x : Nat) (w : World) (hW : Wd w) (h : IsU .i64 w w.heap.size A n c (pcs 10000 x)) (hm : n ≤ 100000000) :
    Calls Tryz.prog 53 #[.bool false, .slice A n c] w fun e w' => e = .returned (.string (txt (x : Int))) ∧ Below w.heap.size w w' :=
  made_any false A n c _ (x : Int) (by rw [val_pcs (by decide)]; rfl) (dig_pcs (by decide) x) w hW h hm
theorem made_sgn (mi : Bool) (A : Option Addr) (n c : Nat) (x : Nat) (z : Int) (hz : (if mi then -(x : Int) else (x : Int)) = z) (w : World) (hW : Wd w) (h : IsU .i64 w w.heap.size A n c (pcs 10000 x)) (hm : n ≤ 100000000) :
    Calls Tryz.prog 53 #[.bool mi, .slice A n c] w fun e w' => e = .returned (.string (txt z)) ∧ Below w.heap.size w w' :=
  made_any mi A n c _ z (by rw [val_pcs (by decide)]; exact hz) (dig_pcs (by decide) x) w hW h hm

theorem pcsR_one : pcs 10000 1 = [1] := by
  rw [pcs_pos (by decide) (by decide), show 1 % 10000 = 1 from rfl, show 1 / 10000 = 0 from rfl, pcs_zero]

set_option maxRecDepth 100000 in
set_option maxHeartbeats 4000000 in
theorem refDivMod_big1 (x y : Int) (hy0 : y ≠ 0) (hs : ¬ (Lib.decDigits x.natAbs).length ≤ 17) (hx : DL x 99000) (hy : DL y 99000) (w : World) (hW : Wd w) :
    Calls Tryz.prog 48 #[.string (txt x), .string (txt y)] w fun e w' => e = .returned (.tuple #[.string (txt (x / y)), .string (txt (x % y))]) ∧ Below w.heap.size w w' := by
  have hx' := hx.itoa
  have hy' := hy.itoa
  have px := hx.pcs
  have py := hy.pcs
  have hd1 : (Lib.decDigits x.natAbs).length ≤ 99000 := hx
  have hd2 : (Lib.decDigits y.natAbs).length ≤ 99000 := hy
  have hsp1 := fun w => split_txt x (by omega) w
  have hsp2 := fun w => split_txt y (by omega) w
  have htk1 := fun w => take_any x.natAbs (by omega) w
  have htk2 := fun w => take_any y.natAbs (by omega) w
  have htr : ∀ a b c : World, Below a.heap.size a b → Below b.heap.size b c → Below a.heap.size a c := fun a b c h1 h2 => h1.trans (h2.mono h1.size)
  have hpt : ∀ (w1 w2 : World) (A1 : Option Addr) (n1 c1 : Nat) (A2 : Option Addr) (n2 c2 : Nat), IsU .i64 w1 w1.heap.size A1 n1 c1 (pcs 10000 x.natAbs) → Below w1.heap.size w1 w2 → IsU .i64 w2 w2.heap.size A2 n2 c2 (pcs 10000 y.natAbs) → Calls Tryz.prog 92 #[.slice A1 n1 c1, .slice A2 n2 c2] w2 fun e w' => DivZ x.natAbs y.natAbs e w' ∧ Below w2.heap.size w2 w' := fun w1 w2 A1 n1 c1 A2 n2 c2 h1 hb h2 =>
    parts_ref A1 A2 n1 n2 c1 c2 x.natAbs y.natAbs (by omega) w2 (h1.to hb (Nat.le_refl _)) h2 (by have h3 := h1.len; omega) (by have h3 := h2.len; omega)
  have hA := brief_no x hs (by omega) w
  obtain ⟨v2, b2, hbr⟩ := brief_some y (by omega)
  clear hd1 hd2 hx' hy'
  go_enter Tryz.func48, Tryz.ntmps48
  go_wp2_with (first
    | (with_reducible refine Calls.mono hA ?_; rintro e w1 ⟨rfl, hb1⟩; have hB := hbr w1)
    | (with_reducible refine Calls.mono hB ?_; rintro e w2 ⟨rfl, hb2⟩; have hB2 := htr _ _ _ hb1 hb2; have hC := hsp1 w2)
    | (with_reducible refine Calls.mono hC ?_; rintro e w3 ⟨rfl, hb3⟩; have hB3 := htr _ _ _ hB2 hb3; have hD := hsp2 w3)
    | (with_reducible refine Calls.mono hD ?_; rintro e w4 ⟨rfl, hb4⟩; have hB4 := htr _ _ _ hB3 hb4; have hE := htk1 w4)
    | (with_reducible refine Calls.mono hE ?_; rintro e w5 ⟨⟨A1, n1, c1, rfl, hU1, hf1⟩, hb5⟩; have hB5 := htr _ _ _ hB4 hb5; have hF := htk2 w5)
    | (with_reducible refine Calls.mono hF ?_; rintro e w6 ⟨⟨A2, n2, c2, rfl, hU2, hf2⟩, hb6⟩; have hB6 := htr _ _ _ hB5 hb6; have hG := hpt w5 w6 A1 n1 c1 A2 n2 c2 hU1 hb6 hU2))
  with_reducible refine Calls.mono hG ?_
  rintro e w7 ⟨⟨A3, n3, c3, A4, n4, c4, rfl, hQ, hR⟩, hb7⟩
  have hB7 := htr _ _ _ hB6 hb7
  have hz4 : x.natAbs % y.natAbs = 0 ↔ n4 = 0 := by rw [← hR.len, List.length_eq_zero_iff, pcs_nil_iff (by decide)]
  have hn3 : n3 ≤ 99000 := by rw [← hQ.len]; exact pcsR_mono (Nat.div_le_self _ _) px
  have hn4 : n4 ≤ 99000 := by rw [← hR.len]; exact pcsR_mono (Nat.mod_le _ _) px
  by_cases hcase : ¬ x < 0 ∨ n4 = 0
  · obtain ⟨hp1, hp2⟩ := divmod_plain (x := x) (y := y) hy0 (by omega)
    have hm1 := made_sgn _ A3 n3 c3 _ _ hp1 w7 (hW.below hB7) hQ (by omega)
    have hm2 : ∀ w8, Below w7.heap.size w7 w8 → Calls Tryz.prog 53 #[.bool false, .slice A4 n4 c4] w8 fun e w' => e = .returned (.string (txt (x % y))) ∧ Below w8.heap.size w8 w' := fun w8 hb => by
      rw [← hp2]
      exact made_nat A4 n4 c4 _ w8 (hW.below (htr _ _ _ hB7 hb)) (hR.to hb (Nat.le_refl _)) (by omega)
    clear hp1 hp2
    by_cases hx0 : x < 0
    · have h40 : n4 = 0 := by omega
      have hm1' : Calls Tryz.prog 53 #[.bool (!decide (y < 0)), .slice A3 n3 c3] w7 fun e w' => e = .returned (.string (txt (x / y))) ∧ Below w7.heap.size w7 w' := by
        have := hm1; rwa [decide_eq_true hx0, show (!(true == decide (y < 0))) = !decide (y < 0) by simp] at this
      clear hz4 hm1
      subst h40
      go_wp2_with (first
        | (with_reducible refine Calls.mono hm1' ?_; rintro e w8 ⟨rfl, hb8⟩; have hB8 := htr _ _ _ hB7 hb8; have hm3 := hm2 w8 hb8)
        | (with_reducible refine Calls.mono hm3 ?_; rintro e w9 ⟨rfl, hb9⟩))
      all_goals go_ret2
      all_goals exact ⟨rfl, htr _ _ _ hB8 hb9⟩
    · have hm1' : Calls Tryz.prog 53 #[.bool (decide (y < 0)), .slice A3 n3 c3] w7 fun e w' => e = .returned (.string (txt (x / y))) ∧ Below w7.heap.size w7 w' := by
        have := hm1; rwa [decide_eq_false hx0, show (!(false == decide (y < 0))) = decide (y < 0) by simp] at this
      clear hz4 hm1
      go_wp2_with (first
        | (with_reducible refine Calls.mono hm1' ?_; rintro e w8 ⟨rfl, hb8⟩; have hB8 := htr _ _ _ hB7 hb8; have hm3 := hm2 w8 hb8)
        | (with_reducible refine Calls.mono hm3 ?_; rintro e w9 ⟨rfl, hb9⟩))
      all_goals go_ret2
      all_goals exact ⟨rfl, htr _ _ _ hB8 hb9⟩
  · obtain ⟨hp1, hp2⟩ := divmod_neg (x := x) (y := y) hy0 (by omega) (by omega)
    have hx0 : x < 0 := by omega
    have h40 : 0 < n4 := by omega
    obtain ⟨W8, hW8⟩ : ∃ W8, w7.alloc (.cells #[.int .i64 1] 3) = W8 := ⟨_, rfl⟩
    have hba : Below w7.heap.size w7 W8 := hW8 ▸ (Below.refl _ w7).alloc (Nat.le_refl _) (.cells #[.int .i64 1] 3)
    have hone : IsU .i64 W8 W8.heap.size (some ⟨w7.heap.size, 0, none⟩) 1 1 [1] := by
      subst hW8
      exact IsU.of_block (xs := [1]) (heap_alloc_new w7 _) rfl
    have hQ8 := hQ.to hba (Nat.le_refl _)
    have hR8 := hR.to hba (Nat.le_refl _)
    have hB8 := htr _ _ _ hB7 hba
    have hj1 := joined_any A3 (some ⟨w7.heap.size, 0, none⟩) n3 1 c3 1 _ [1] 1 (by decide) (x.natAbs / y.natAbs + 1) (by rw [val_pcs (by decide)]; simp [val]) (dig_pcs (by decide) _) (Dig.one (by decide)) W8 hQ8 hone (by omega) (by decide)
    have HW8 := Lib.hid hW8; clear hW8
    have hlen9 : (pcs 10000 (x.natAbs / y.natAbs + 1)).length ≤ 99001 := pcsR_add (pcsR_mono (Nat.div_le_self _ _) px) (by rw [pcsR_one]; decide)
    have hlen11 : (pcs 10000 (y.natAbs - x.natAbs % y.natAbs)).length ≤ 99000 := pcsR_mono (Nat.sub_le _ _) py
    have hmy : x.natAbs % y.natAbs ≤ y.natAbs := Nat.le_of_lt (Nat.mod_lt _ (by omega))
    have hj2 : ∀ (w9 w10 : World) (A10 : Option Addr) (n10 c10 : Nat), IsU .i64 w9 w9.heap.size A4 n4 c4 (pcs 10000 (x.natAbs % y.natAbs)) → Below w9.heap.size w9 w10 → IsU .i64 w10 w10.heap.size A10 n10 c10 (pcs 10000 y.natAbs) → Calls Tryz.prog 54 #[.slice A10 n10 c10, .slice A4 n4 c4, .int .i64 (-1), .int .i64 0] w10 fun e w' => (∃ A1 n1 c1, e = .returned (.slice A1 n1 c1) ∧ IsU .i64 w' w'.heap.size A1 n1 c1 (pcs 10000 (y.natAbs - x.natAbs % y.natAbs)) ∧ Fresh w10.heap.size A1) ∧ Below w10.heap.size w10 w' := fun w9 w10 A10 n10 c10 h1 hb h2 =>
      joined_any A10 A4 n10 n4 c10 c4 _ _ (-1) (by decide) (y.natAbs - x.natAbs % y.natAbs) (by rw [val_pcs (by decide), val_pcs (by decide)]; omega) (dig_pcs (by decide) _) (dig_pcs (by decide) _) w10 h2 (h1.to hb (Nat.le_refl _)) (by have h3 := h2.len; omega) (by omega)
    have hp1' : (if (!decide (y < 0)) then -((x.natAbs / y.natAbs + 1 : Nat) : Int) else ((x.natAbs / y.natAbs + 1 : Nat) : Int)) = x / y := by
      rw [← hp1]; simp [hx0]
    have hm1 : ∀ (w9 w11 : World) (A9 : Option Addr) (n9 c9 : Nat), Below w.heap.size w w11 → IsU .i64 w9 w9.heap.size A9 n9 c9 (pcs 10000 (x.natAbs / y.natAbs + 1)) → Below w9.heap.size w9 w11 → Calls Tryz.prog 53 #[.bool (!decide (y < 0)), .slice A9 n9 c9] w11 fun e w' => e = .returned (.string (txt (x / y))) ∧ Below w11.heap.size w11 w' := fun w9 w11 A9 n9 c9 hB h1 hb =>
      made_sgn _ A9 n9 c9 _ _ hp1' w11 (hW.below hB) (h1.to hb (Nat.le_refl _)) (by have h3 := h1.len; omega)
    have hm2 : ∀ (w11 w12 : World) (A11 : Option Addr) (n11 c11 : Nat), Below w.heap.size w w12 → IsU .i64 w11 w11.heap.size A11 n11 c11 (pcs 10000 (y.natAbs - x.natAbs % y.natAbs)) → Below w11.heap.size w11 w12 → Calls Tryz.prog 53 #[.bool false, .slice A11 n11 c11] w12 fun e w' => e = .returned (.string (txt (x % y))) ∧ Below w12.heap.size w12 w' := fun w11 w12 A11 n11 c11 hB h1 hb => by
      rw [← hp2]
      exact made_nat A11 n11 c11 _ w12 (hW.below hB) (h1.to hb (Nat.le_refl _)) (by have h3 := h1.len; omega)
    clear hp1 hp2 hp1' hcase
    go_wp2_with fail
    rw [HW8.out]
    with_reducible refine Calls.mono hj1 ?_
    rintro e w9 ⟨⟨A9, n9, c9, rfl, hU9, hf9⟩, hb9⟩
    have hB9 := htr _ _ _ hB8 hb9
    have hR9 := hR8.to hb9 (Nat.le_refl _)
    have hK := htk2 w9
    go_wp2_with (first
      | (with_reducible refine Calls.mono hK ?_; rintro e w10 ⟨⟨A10, n10, c10, rfl, hU10, hf10⟩, hb10⟩; have hB10 := htr _ _ _ hB9 hb10; have hL := hj2 w9 w10 A10 n10 c10 hR9 hb10 hU10)
      | (with_reducible refine Calls.mono hL ?_; rintro e w11 ⟨⟨A11, n11, c11, rfl, hU11, hf11⟩, hb11⟩; have hB11 := htr _ _ _ hB10 hb11; have hb911 := htr _ _ _ hb10 hb11; have hM := hm1 w9 w11 A9 n9 c9 hB11 hU9 hb911)
      | (with_reducible refine Calls.mono hM ?_; rintro e w12 ⟨rfl, hb12⟩; have hB12 := htr _ _ _ hB11 hb12; have hN := hm2 w11 w12 A11 n11 c11 hB12 hU11 hb12)
      | (with_reducible refine Calls.mono hN ?_; rintro e w13 ⟨rfl, hb13⟩))
    all_goals go_ret2
    all_goals exact ⟨rfl, htr _ _ _ hB12 hb13⟩

set_option maxRecDepth 100000 in
set_option maxHeartbeats 4000000 in
theorem refDivMod_big2 (x y : Int) (hy0 : y ≠ 0) (hs1 : (Lib.decDigits x.natAbs).length ≤ 17) (hs : ¬ (Lib.decDigits y.natAbs).length ≤ 17) (hx : DL x 99000) (hy : DL y 99000) (w : World) (hW : Wd w) :
    Calls Tryz.prog 48 #[.string (txt x), .string (txt y)] w fun e w' => e = .returned (.tuple #[.string (txt (x / y)), .string (txt (x % y))]) ∧ Below w.heap.size w w' := by
  have hx' := hx.itoa
  have hy' := hy.itoa
  have px := hx.pcs
  have py := hy.pcs
  have hd1 : (Lib.decDigits x.natAbs).length ≤ 99000 := hx
  have hd2 : (Lib.decDigits y.natAbs).length ≤ 99000 := hy
  have hsp1 := fun w => split_txt x (by omega) w
  have hsp2 := fun w => split_txt y (by omega) w
  have htk1 := fun w => take_any x.natAbs (by omega) w
  have htk2 := fun w => take_any y.natAbs (by omega) w
  have htr : ∀ a b c : World, Below a.heap.size a b → Below b.heap.size b c → Below a.heap.size a c := fun a b c h1 h2 => h1.trans (h2.mono h1.size)
  have hpt : ∀ (w1 w2 : World) (A1 : Option Addr) (n1 c1 : Nat) (A2 : Option Addr) (n2 c2 : Nat), IsU .i64 w1 w1.heap.size A1 n1 c1 (pcs 10000 x.natAbs) → Below w1.heap.size w1 w2 → IsU .i64 w2 w2.heap.size A2 n2 c2 (pcs 10000 y.natAbs) → Calls Tryz.prog 92 #[.slice A1 n1 c1, .slice A2 n2 c2] w2 fun e w' => DivZ x.natAbs y.natAbs e w' ∧ Below w2.heap.size w2 w' := fun w1 w2 A1 n1 c1 A2 n2 c2 h1 hb h2 =>
    parts_ref A1 A2 n1 n2 c1 c2 x.natAbs y.natAbs (by omega) w2 (h1.to hb (Nat.le_refl _)) h2 (by have h3 := h1.len; omega) (by have h3 := h2.len; omega)
  have hA := brief_yes x hs1 w
  have hbr := fun w => brief_no y hs (by omega) w
  clear hd1 hd2 hx' hy'
  go_enter Tryz.func48, Tryz.ntmps48
  go_wp2_with (first
    | (with_reducible refine Calls.mono hA ?_; rintro e w1 ⟨rfl, hb1⟩; have hB := hbr w1)
    | (with_reducible refine Calls.mono hB ?_; rintro e w2 ⟨rfl, hb2⟩; have hB2 := htr _ _ _ hb1 hb2; have hC := hsp1 w2)
    | (with_reducible refine Calls.mono hC ?_; rintro e w3 ⟨rfl, hb3⟩; have hB3 := htr _ _ _ hB2 hb3; have hD := hsp2 w3)
    | (with_reducible refine Calls.mono hD ?_; rintro e w4 ⟨rfl, hb4⟩; have hB4 := htr _ _ _ hB3 hb4; have hE := htk1 w4)
    | (with_reducible refine Calls.mono hE ?_; rintro e w5 ⟨⟨A1, n1, c1, rfl, hU1, hf1⟩, hb5⟩; have hB5 := htr _ _ _ hB4 hb5; have hF := htk2 w5)
    | (with_reducible refine Calls.mono hF ?_; rintro e w6 ⟨⟨A2, n2, c2, rfl, hU2, hf2⟩, hb6⟩; have hB6 := htr _ _ _ hB5 hb6; have hG := hpt w5 w6 A1 n1 c1 A2 n2 c2 hU1 hb6 hU2))
  with_reducible refine Calls.mono hG ?_
  rintro e w7 ⟨⟨A3, n3, c3, A4, n4, c4, rfl, hQ, hR⟩, hb7⟩
  have hB7 := htr _ _ _ hB6 hb7
  have hz4 : x.natAbs % y.natAbs = 0 ↔ n4 = 0 := by rw [← hR.len, List.length_eq_zero_iff, pcs_nil_iff (by decide)]
  have hn3 : n3 ≤ 99000 := by rw [← hQ.len]; exact pcsR_mono (Nat.div_le_self _ _) px
  have hn4 : n4 ≤ 99000 := by rw [← hR.len]; exact pcsR_mono (Nat.mod_le _ _) px
  by_cases hcase : ¬ x < 0 ∨ n4 = 0
  · obtain ⟨hp1, hp2⟩ := divmod_plain (x := x) (y := y) hy0 (by omega)
    have hm1 := made_sgn _ A3 n3 c3 _ _ hp1 w7 (hW.below hB7) hQ (by omega)
    have hm2 : ∀ w8, Below w7.heap.size w7 w8 → Calls Tryz.prog 53 #[.bool false, .slice A4 n4 c4] w8 fun e w' => e = .returned (.string (txt (x % y))) ∧ Below w8.heap.size w8 w' := fun w8 hb => by
      rw [← hp2]
      exact made_nat A4 n4 c4 _ w8 (hW.below (htr _ _ _ hB7 hb)) (hR.to hb (Nat.le_refl _)) (by omega)
    clear hp1 hp2
    by_cases hx0 : x < 0
    · have h40 : n4 = 0 := by omega
      have hm1' : Calls Tryz.prog 53 #[.bool (!decide (y < 0)), .slice A3 n3 c3] w7 fun e w' => e = .returned (.string (txt (x / y))) ∧ Below w7.heap.size w7 w' := by
        have := hm1; rwa [decide_eq_true hx0, show (!(true == decide (y < 0))) = !decide (y < 0) by simp] at this
      clear hz4 hm1
      subst h40
      go_wp2_with (first
        | (with_reducible refine Calls.mono hm1' ?_; rintro e w8 ⟨rfl, hb8⟩; have hB8 := htr _ _ _ hB7 hb8; have hm3 := hm2 w8 hb8)
        | (with_reducible refine Calls.mono hm3 ?_; rintro e w9 ⟨rfl, hb9⟩))
      all_goals go_ret2
      all_goals exact ⟨rfl, htr _ _ _ hB8 hb9⟩
    · have hm1' : Calls Tryz.prog 53 #[.bool (decide (y < 0)), .slice A3 n3 c3] w7 fun e w' => e = .returned (.string (txt (x / y))) ∧ Below w7.heap.size w7 w' := by
        have := hm1; rwa [decide_eq_false hx0, show (!(false == decide (y < 0))) = decide (y < 0) by simp] at this
      clear hz4 hm1
      go_wp2_with (first
        | (with_reducible refine Calls.mono hm1' ?_; rintro e w8 ⟨rfl, hb8⟩; have hB8 := htr _ _ _ hB7 hb8; have hm3 := hm2 w8 hb8)
        | (with_reducible refine Calls.mono hm3 ?_; rintro e w9 ⟨rfl, hb9⟩))
      all_goals go_ret2
      all_goals exact ⟨rfl, htr _ _ _ hB8 hb9⟩
  · obtain ⟨hp1, hp2⟩ := divmod_neg (x := x) (y := y) hy0 (by omega) (by omega)
    have hx0 : x < 0 := by omega
    have h40 : 0 < n4 := by omega
    obtain ⟨W8, hW8⟩ : ∃ W8, w7.alloc (.cells #[.int .i64 1] 3) = W8 := ⟨_, rfl⟩
    have hba : Below w7.heap.size w7 W8 := hW8 ▸ (Below.refl _ w7).alloc (Nat.le_refl _) (.cells #[.int .i64 1] 3)
    have hone : IsU .i64 W8 W8.heap.size (some ⟨w7.heap.size, 0, none⟩) 1 1 [1] := by
      subst hW8
      exact IsU.of_block (xs := [1]) (heap_alloc_new w7 _) rfl
    have hQ8 := hQ.to hba (Nat.le_refl _)
    have hR8 := hR.to hba (Nat.le_refl _)
    have hB8 := htr _ _ _ hB7 hba
    have hj1 := joined_any A3 (some ⟨w7.heap.size, 0, none⟩) n3 1 c3 1 _ [1] 1 (by decide) (x.natAbs / y.natAbs + 1) (by rw [val_pcs (by decide)]; simp [val]) (dig_pcs (by decide) _) (Dig.one (by decide)) W8 hQ8 hone (by omega) (by decide)
    have HW8 := Lib.hid hW8; clear hW8
    have hlen9 : (pcs 10000 (x.natAbs / y.natAbs + 1)).length ≤ 99001 := pcsR_add (pcsR_mono (Nat.div_le_self _ _) px) (by rw [pcsR_one]; decide)
    have hlen11 : (pcs 10000 (y.natAbs - x.natAbs % y.natAbs)).length ≤ 99000 := pcsR_mono (Nat.sub_le _ _) py
    have hmy : x.natAbs % y.natAbs ≤ y.natAbs := Nat.le_of_lt (Nat.mod_lt _ (by omega))
    have hj2 : ∀ (w9 w10 : World) (A10 : Option Addr) (n10 c10 : Nat), IsU .i64 w9 w9.heap.size A4 n4 c4 (pcs 10000 (x.natAbs % y.natAbs)) → Below w9.heap.size w9 w10 → IsU .i64 w10 w10.heap.size A10 n10 c10 (pcs 10000 y.natAbs) → Calls Tryz.prog 54 #[.slice A10 n10 c10, .slice A4 n4 c4, .int .i64 (-1), .int .i64 0] w10 fun e w' => (∃ A1 n1 c1, e = .returned (.slice A1 n1 c1) ∧ IsU .i64 w' w'.heap.size A1 n1 c1 (pcs 10000 (y.natAbs - x.natAbs % y.natAbs)) ∧ Fresh w10.heap.size A1) ∧ Below w10.heap.size w10 w' := fun w9 w10 A10 n10 c10 h1 hb h2 =>
      joined_any A10 A4 n10 n4 c10 c4 _ _ (-1) (by decide) (y.natAbs - x.natAbs % y.natAbs) (by rw [val_pcs (by decide), val_pcs (by decide)]; omega) (dig_pcs (by decide) _) (dig_pcs (by decide) _) w10 h2 (h1.to hb (Nat.le_refl _)) (by have h3 := h2.len; omega) (by omega)
    have hp1' : (if (!decide (y < 0)) then -((x.natAbs / y.natAbs + 1 : Nat) : Int) else ((x.natAbs / y.natAbs + 1 : Nat) : Int)) = x / y := by
      rw [← hp1]; simp [hx0]
    have hm1 : ∀ (w9 w11 : World) (A9 : Option Addr) (n9 c9 : Nat), Below w.heap.size w w11 → IsU .i64 w9 w9.heap.size A9 n9 c9 (pcs 10000 (x.natAbs / y.natAbs + 1)) → Below w9.heap.size w9 w11 → Calls Tryz.prog 53 #[.bool (!decide (y < 0)), .slice A9 n9 c9] w11 fun e w' => e = .returned (.string (txt (x / y))) ∧ Below w11.heap.size w11 w' := fun w9 w11 A9 n9 c9 hB h1 hb =>
      made_sgn _ A9 n9 c9 _ _ hp1' w11 (hW.below hB) (h1.to hb (Nat.le_refl _)) (by have h3 := h1.len; omega)
    have hm2 : ∀ (w11 w12 : World) (A11 : Option Addr) (n11 c11 : Nat), Below w.heap.size w w12 → IsU .i64 w11 w11.heap.size A11 n11 c11 (pcs 10000 (y.natAbs - x.natAbs % y.natAbs)) → Below w11.heap.size w11 w12 → Calls Tryz.prog 53 #[.bool false, .slice A11 n11 c11] w12 fun e w' => e = .returned (.string (txt (x % y))) ∧ Below w12.heap.size w12 w' := fun w11 w12 A11 n11 c11 hB h1 hb => by
      rw [← hp2]
      exact made_nat A11 n11 c11 _ w12 (hW.below hB) (h1.to hb (Nat.le_refl _)) (by have h3 := h1.len; omega)
    clear hp1 hp2 hp1' hcase
    go_wp2_with fail
    rw [HW8.out]
    with_reducible refine Calls.mono hj1 ?_
    rintro e w9 ⟨⟨A9, n9, c9, rfl, hU9, hf9⟩, hb9⟩
    have hB9 := htr _ _ _ hB8 hb9
    have hR9 := hR8.to hb9 (Nat.le_refl _)
    have hK := htk2 w9
    go_wp2_with (first
      | (with_reducible refine Calls.mono hK ?_; rintro e w10 ⟨⟨A10, n10, c10, rfl, hU10, hf10⟩, hb10⟩; have hB10 := htr _ _ _ hB9 hb10; have hL := hj2 w9 w10 A10 n10 c10 hR9 hb10 hU10)
      | (with_reducible refine Calls.mono hL ?_; rintro e w11 ⟨⟨A11, n11, c11, rfl, hU11, hf11⟩, hb11⟩; have hB11 := htr _ _ _ hB10 hb11; have hb911 := htr _ _ _ hb10 hb11; have hM := hm1 w9 w11 A9 n9 c9 hB11 hU9 hb911)
      | (with_reducible refine Calls.mono hM ?_; rintro e w12 ⟨rfl, hb12⟩; have hB12 := htr _ _ _ hB11 hb12; have hN := hm2 w11 w12 A11 n11 c11 hB12 hU11 hb12)
      | (with_reducible refine Calls.mono hN ?_; rintro e w13 ⟨rfl, hb13⟩))
    all_goals go_ret2
    all_goals exact ⟨rfl, htr _ _ _ hB12 hb13⟩

theorem refDivMod_any (x y : Int) (hy0 : y ≠ 0) (hx : DL x 99000) (hy : DL y 99000) (w : World) (hW : Wd w) :
    Calls Tryz.prog 48 #[.string (txt x), .string (txt y)] w fun e w' => e = .returned (.tuple #[.string (txt (x / y)), .string (txt (x % y))]) ∧ Below w.heap.size w w' := by
  by_cases h1 : (Lib.decDigits x.natAbs).length ≤ 17
  · by_cases h2 : (Lib.decDigits y.natAbs).length ≤ 17
    · exact refDivMod_small x y hy0 h1 h2 w hW
    · exact refDivMod_big2 x y hy0 h1 h2 hx hy w hW
  · exact refDivMod_big1 x y hy0 h1 hx hy w hW
end Go.Proofs.YtgfgpepdkffhbaaGreatDoor.Kl
namespace Go.Proofs.YtgfgpepdkffhbaaGreatDoor.Kl
open Go.RowKit Go.Shelf
set_option linter.unusedVariables false
set_option linter.unusedSimpArgs false

/-- the number that a string's digits write: the measure of a loop over texts. -/
def strVal : Value → Nat
  | .string s => dval s.data.toList
  | _ => 0
theorem strVal_txt (n : Nat) : strVal (.string (txt (n : Int))) = n := by
  show dval (txt (n : Int)).data.toList = n
  rw [txt_list, itoa_nat, dval_dec]

theorem DL.nat {x : Int} {k : Nat} (h : DL x k) : DL (x.natAbs : Int) k := by unfold DL; rw [Int.natAbs_natCast]; exact h
theorem DL.le {a b k : Nat} (h : DL (b : Int) k) (hab : a ≤ b) (hk : 1 ≤ k) : DL (a : Int) k := by
  apply DL.of_lt _ hk
  have := h.lt
  rw [Int.natAbs_natCast] at this ⊢
  omega

theorem gcd_next {a b g : Nat} (h : Nat.gcd a b = g) : Nat.gcd b (a % b) = g := by rw [Nat.gcd_comm, ← Nat.gcd_rec, Nat.gcd_comm]; exact h

set_option maxRecDepth 100000 in
set_option maxHeartbeats 1000000 in
theorem refGcd_any (x y : Int) (hx : DL x 99000) (hy : DL y 99000) (w : World) (hW : Wd w) :
    Calls Tryz.prog 39 #[.string (txt x), .string (txt y)] w fun e w' => e = .returned (.string (txt ((Nat.gcd x.natAbs y.natAbs : Nat) : Int))) ∧ Below w.heap.size w w' := by
  have hx' := hx.itoa
  have hy' := hy.itoa
  have ha1 := refAbs_any x (by omega) w
  have ha2 := fun w => refAbs_any y (by omega) w
  have htr : ∀ a b c : World, Below a.heap.size a b → Below b.heap.size b c → Below a.heap.size a c := fun a b c h1 h2 => h1.trans (h2.mono h1.size)
  obtain ⟨g, hg⟩ : ∃ g, Nat.gcd x.natAbs y.natAbs = g := ⟨_, rfl⟩
  rw [hg]
  have HG := Lib.hid hg; clear hg
  go_enter Tryz.func39, Tryz.ntmps39
  go_wp2_with (first
    | (with_reducible refine Calls.mono ha1 ?_; rintro e w1 ⟨rfl, hb1⟩; have hB := ha2 w1)
    | (with_reducible refine Calls.mono hB ?_; rintro e w2 ⟨rfl, hb2⟩; have hB2 := htr _ _ _ hb1 hb2))
  go_loopw [0, 1] (fun v u wr => ∃ a b : Nat, v = .string (txt (a : Int)) ∧ u = .string (txt (b : Int)) ∧ DL (a : Int) 99000 ∧ DL (b : Int) 99000 ∧ RowKit.Hid (Nat.gcd a b = g) ∧ Below w.heap.size w wr) (fun _ u _ => strVal u)
  case atStart => exact ⟨x.natAbs, y.natAbs, rfl, rfl, hx.nat, hy.nat, HG, hB2⟩
  case round =>
    obtain ⟨a, b, rfl, rfl, ha, hb, hgcd, hbel⟩ := hrel
    have hz := txt_is_zero (b : Int)
    by_cases hb0 : (b : Int) = 0
    · rw [decide_eq_true hb0] at hz
      have hga : txt (a : Int) = txt (g : Int) := by
        have := hgcd.out
        have h0 : b = 0 := by omega
        rw [h0] at this
        rw [Nat.gcd_zero_right] at this
        rw [this]
      have HGA := Lib.hid hga; clear hga hb0
      go_wp2_with fail
      go_ret
      exact ⟨congrArg (fun t => Ending.returned (.string t)) HGA.out, hbel⟩
    · rw [decide_eq_false hb0] at hz
      have hdm := refDivMod_any (a : Int) (b : Int) hb0 ha hb wr (hW.below hbel)
      have hlt : a % b < b := Nat.mod_lt _ (by omega)
      have hbn : DL ((a % b : Nat) : Int) 99000 := hb.le (Nat.le_of_lt hlt) (by decide)
      rw [← Int.natCast_emod, ← Int.natCast_ediv] at hdm
      have HN := Lib.hid (gcd_next hgcd.out)
      have HLT := Lib.hid hlt; clear hlt hb0
      have hbt := fun w2 h => htr w wr w2 hbel h
      go_wp2_with (with_reducible refine Calls.mono hdm ?_; rintro e w3 ⟨rfl, hb3⟩; have hB3 := hbt w3 hb3)
      exact ⟨⟨b, a % b, rfl, rfl, hb, hbn, HN, hB3⟩, by rw [← Int.natCast_emod, strVal_txt, strVal_txt]; exact HLT.out⟩

/-- a power of an integer. -/
theorem DL.pow {x : Int} {k n : Nat} (h : DL x k) (hk : 1 ≤ k) : DL (x ^ n) (k * n + 1) := by
  apply DL.of_lt _ (by omega)
  rw [Int.natAbs_pow]
  calc x.natAbs ^ n ≤ (10 ^ k) ^ n := Nat.pow_le_pow_left (Nat.le_of_lt h.lt) n
    _ = 10 ^ (k * n) := (Nat.pow_mul 10 k n).symm
    _ < 10 ^ (k * n + 1) := Nat.pow_lt_pow_right (by decide) (by omega)

set_option maxRecDepth 100000 in
theorem refPower_any (x : Int) (n k : Nat) (hx : DL x k) (hkn : k * n ≤ 98000) (hk1 : 1 ≤ k) (hk2 : k ≤ 99000) (hn : n ≤ 1000000) (w : World) (hW : Wd w) :
    Calls Tryz.prog 114 #[.string (txt x), .int .i64 (n : Int)] w fun e w' => e = .returned (.string (txt (x ^ n))) ∧ Below w.heap.size w w' := by
  have htr : ∀ a b c : World, Below a.heap.size a b → Below b.heap.size b c → Below a.heap.size a c := fun a b c h1 h2 => h1.trans (h2.mono h1.size)
  have hx9 : DL x 99000 := hx.mono hk2
  have hone : (⟨#[49]⟩ : ByteArray) = txt (x ^ 0) := by rw [Int.pow_zero]; exact txt_one'
  have HONE := Lib.hid hone; clear hone
  go_enter Tryz.func114, Tryz.ntmps114
  go_wp2_with fail
  go_loopw [5, 6] (fun ov iv wr => ∃ i : Nat, ov = .string (txt (x ^ i)) ∧ iv = .int .i64 (i : Int) ∧ i ≤ n ∧ Below w.heap.size w wr) (fun _ iv _ => n - (intOf iv).toNat)
  case atStart => exact ⟨0, by rw [← HONE.out], rfl, Nat.zero_le _, Below.refl _ _⟩
  case round =>
    obtain ⟨i, rfl, rfl, hi, hbel⟩ := hrel
    by_cases hin : i < n
    · have hpi : DL (x ^ i) 99000 := (hx.pow (n := i) hk1).mono (by
        have : k * i ≤ k * n := Nat.mul_le_mul_left _ hi
        omega)
      have hmu := refMul_any (x ^ i) x hpi hx9 wr (hW.below hbel)
      rw [← Int.pow_succ] at hmu
      go_wp2_with (with_reducible refine Calls.mono hmu ?_; rintro e w2 ⟨rfl, hb2⟩)
      exact ⟨⟨i + 1, rfl, by congr 1, hin, htr _ _ _ hbel hb2⟩, by simp [intOf]; omega⟩
    · obtain rfl : i = n := by omega
      go_wp2_with fail
      go_ret
      exact ⟨rfl, hbel⟩

theorem txt_ten : (⟨#[49, 48]⟩ : ByteArray) = txt 10 := by
  apply bytes_ext
  rw [txt_list, show (10 : Int) = ((10 : Nat) : Int) from rfl, itoa_nat, dec_big (by decide), dec_small (by decide)]; rfl
theorem txt_two : (⟨#[50]⟩ : ByteArray) = txt 2 := by
  apply bytes_ext
  rw [txt_list, show (2 : Int) = ((2 : Nat) : Int) from rfl, itoa_nat, dec_small (by decide)]; rfl

theorem sub_sign {a b : Nat} : ((a : Int) - (b : Int)).sign < 0 ↔ a < b := by
  constructor
  · intro h
    rcases Int.lt_trichotomy ((a : Int) - b) 0 with h1 | h1 | h1
    · omega
    · rw [h1] at h; simp at h
    · rw [Int.sign_eq_one_of_pos h1] at h; omega
  · intro h
    rw [Int.sign_eq_neg_one_of_neg (by omega)]; decide

set_option maxRecDepth 100000 in
set_option maxHeartbeats 1000000 in
theorem refRoot_any (x : Nat) (hx : DL (x : Int) 90000) (w : World) (hW : Wd w) :
    Calls Tryz.prog 76 #[.string (txt (x : Int))] w fun e w' => e = .returned (.string (txt ((isqrt x : Nat) : Int))) ∧ Below w.heap.size w w' := by
  have htr : ∀ a b c : World, Below a.heap.size a b → Below b.heap.size b c → Below a.heap.size a c := fun a b c h1 h2 => h1.trans (h2.mono h1.size)
  have hz := txt_is_zero (x : Int)
  by_cases h0 : (x : Int) = 0
  · rw [decide_eq_true h0] at hz
    have hr : txt ((isqrt x : Nat) : Int) = txt (x : Int) := by
      have : x = 0 := by omega
      rw [this]; rfl
    rw [hr]
    clear h0 hr
    go_enter Tryz.func76, Tryz.ntmps76
    go_wp2
    go_ret
    exact ⟨rfl, Below.refl _ _⟩
  · rw [decide_eq_false h0] at hz
    have hx0 : x ≠ 0 := by omega
    have hsz : (txt (x : Int)).size = (Lib.decDigits x).length := by rw [txt_size, itoa_nat]
    have hdl : (Lib.decDigits x).length ≤ 90000 := by have := hx; unfold DL at this; rwa [Int.natAbs_natCast] at this
    obtain ⟨l, hl⟩ : ∃ l, (Lib.decDigits x).length = l := ⟨_, rfl⟩
    rw [hl] at hsz hdl
    have hst := isqrt_start (B := 10) (n := x) (k := l) (by decide) (by rw [← hl]; exact dec_lt x)
    have HST := Lib.hid hst; clear hst
    have h10 : DL 10 2 := by unfold DL; rw [show (10 : Int).natAbs = 10 from rfl, dec_big (by decide), dec_small (by decide)]; decide
    have hpw := refPower_any 10 ((l + 1) / 2) 2 h10 (by omega) (by decide) (by decide) (by omega) w hW
    have hpd := h10.pow (n := (l + 1) / 2) (by decide)
    have hpv : (10 : Int) ^ ((l + 1) / 2) = ((10 ^ ((l + 1) / 2) : Nat) : Int) := by rw [Int.natCast_pow]; rfl
    rw [hpv] at hpw hpd
    have hl2 : (((l + 1) / 2 : Nat) : Int) = ((l : Int) + 1) / 2 := by omega
    rw [hl2, ← txt_ten] at hpw
    have hp0 : 0 < 10 ^ ((l + 1) / 2) := Nat.pow_pos (by decide)
    obtain ⟨X, hX⟩ : ∃ X, 10 ^ ((l + 1) / 2) = X := ⟨_, rfl⟩
    rw [hX] at hpw hpd hp0 HST
    clear hl2 hX hpv h10
    have hXd : DL (X : Int) 90002 := hpd.mono (by omega)
    clear hl hpd h0
    go_enter Tryz.func76, Tryz.ntmps76
    go_wp2_with (with_reducible refine Calls.mono hpw ?_; rintro e w1 ⟨rfl, hb1⟩)
    go_loopw [3] (fun v wr => ∃ u : Nat, v = .string (txt (u : Int)) ∧ DL (u : Int) 90002 ∧ RowKit.Hid (isqrt x ≤ u) ∧ 0 < u ∧ Below w.heap.size w wr) (fun v _ => strVal v)
    case atStart => exact ⟨X, rfl, hXd, HST, hp0, hb1⟩
    case round =>
      obtain ⟨u, rfl, hud, hge, hu0, hbel⟩ := hrel
      have hd1 := refDivMod_any (x : Int) (u : Int) (by omega) (hx.mono (by decide)) (hud.mono (by decide)) wr (hW.below hbel)
      rw [← Int.natCast_ediv, ← Int.natCast_emod] at hd1
      have hqd : DL ((x / u : Nat) : Int) 90002 := (hx.mono (by decide)).le (Nat.div_le_self _ _) (by decide)
      have had : ∀ w2, Below wr.heap.size wr w2 → Calls Tryz.prog 19 #[.string (txt (u : Int)), .string (txt ((x / u : Nat) : Int))] w2 fun e w' => e = .returned (.string (txt ((u + x / u : Nat) : Int))) ∧ Below w2.heap.size w2 w' := fun w2 hb => by
        have := refAdd_any (u : Int) ((x / u : Nat) : Int) (hud.mono (by decide)) (hqd.mono (by decide)) w2 (hW.below (htr _ _ _ hbel hb))
        rwa [← Int.natCast_add] at this
      have hsd : DL ((u + x / u : Nat) : Int) 90003 := by rw [Int.natCast_add]; exact hud.add hqd
      have hd2 : ∀ w2, Below wr.heap.size wr w2 → Calls Tryz.prog 48 #[.string (txt ((u + x / u : Nat) : Int)), .string ⟨#[50]⟩] w2 fun e w' => e = .returned (.tuple #[.string (txt (((u + x / u) / 2 : Nat) : Int)), .string (txt (((u + x / u) % 2 : Nat) : Int))]) ∧ Below w2.heap.size w2 w' := fun w2 hb => by
        have h2d : DL 2 99000 := by unfold DL; rw [show (2 : Int).natAbs = 2 from rfl, dec_small (by decide)]; decide
        have := refDivMod_any ((u + x / u : Nat) : Int) 2 (by decide) (hsd.mono (by decide)) h2d w2 (hW.below (htr _ _ _ hbel hb))
        rw [show (2 : Int) = ((2 : Nat) : Int) from rfl, ← Int.natCast_ediv, ← Int.natCast_emod] at this
        rw [txt_two]; exact this
      have hyd : DL (((u + x / u) / 2 : Nat) : Int) 90003 := hsd.le (Nat.div_le_self _ _) (by decide)
      have hnge := newton_ge (n := x) hu0
      have hnst := newton_stop (n := x) hu0 hge.out
      obtain ⟨q, hq⟩ : ∃ q, x / u = q := ⟨_, rfl⟩
      obtain ⟨q2, hq2⟩ : ∃ q2, x % u = q2 := ⟨_, rfl⟩
      rw [hq] at had hd2 hnge hnst hyd
      rw [hq, hq2] at hd1
      obtain ⟨s2, hs2⟩ : ∃ s2, (u + q) % 2 = s2 := ⟨_, rfl⟩
      obtain ⟨y, hyy⟩ : ∃ y, (u + q) / 2 = y := ⟨_, rfl⟩
      rw [hyy] at hnge hnst hyd
      have hcp : ∀ w2, Below wr.heap.size wr w2 → Calls Tryz.prog 38 #[.string (txt (y : Int)), .string (txt (u : Int))] w2 fun e w' => e = .returned (.int .i64 ((y : Int) - (u : Int)).sign) ∧ Below w2.heap.size w2 w' := fun w2 hb =>
        refCompare_any (y : Int) (u : Int) (hyd.mono (by decide)) (hud.mono (by decide)) w2 (hW.below (htr _ _ _ hbel hb))
      rw [hyy, hs2] at hd2
      obtain ⟨S, hS⟩ : ∃ S, u + q = S := ⟨_, rfl⟩
      rw [hS] at had hd2
      have HNG := Lib.hid hnge; clear hnge
      have hsg := sub_sign (a := y) (b := u)
      obtain ⟨z, hz'⟩ : ∃ z, ((y : Int) - (u : Int)).sign = z := ⟨_, rfl⟩
      rw [hz'] at hcp hsg
      have HNS := Lib.hid hnst; clear hnst
      have HSG := Lib.hid hsg; clear hsg
      clear hq hq2 hyy hs2 hS hz' hqd hsd
      by_cases hlt : y < u
      · have hz0 : z < 0 := HSG.out.2 hlt
        have HLT := Lib.hid hlt
        have hy0 : 0 < y := by
          apply Nat.lt_of_lt_of_le _ HNG.out
          exact Nat.pos_of_ne_zero (fun h => hx0 (isqrt_zero_iff.1 h))
        have hyd2 := hud.le (Nat.le_of_lt hlt) (by decide)
        clear hlt hyd
        go_wp2_with (first
          | (with_reducible refine Calls.mono hd1 ?_; rintro e w2 ⟨rfl, hb2⟩; have hE := had w2 hb2)
          | (with_reducible refine Calls.mono hE ?_; rintro e w3 ⟨rfl, hb3⟩; have hB3 := htr _ _ _ hb2 hb3; have hF := hd2 w3 hB3)
          | (with_reducible refine Calls.mono hF ?_; rintro e w4 ⟨rfl, hb4⟩; have hB4 := htr _ _ _ hB3 hb4; have hG := hcp w4 hB4)
          | (with_reducible refine Calls.mono hG ?_; rintro e w5 ⟨rfl, hb5⟩; have hB5 := htr _ _ _ hB4 hb5))
        exact ⟨⟨y, rfl, hyd2, HNG, hy0, htr _ _ _ hbel hB5⟩, by rw [strVal_txt, strVal_txt]; exact HLT.out⟩
      · have hz0 : ¬ z < 0 := fun h => hlt (HSG.out.1 h)
        have hz1 : 0 ≤ z := by omega
        have hv : txt (u : Int) = txt ((isqrt x : Nat) : Int) := by rw [HNS.out (by omega)]
        have HV := Lib.hid hv; clear hv hlt hyd hz0
        go_wp2_with (first
          | (with_reducible refine Calls.mono hd1 ?_; rintro e w2 ⟨rfl, hb2⟩; have hE := had w2 hb2)
          | (with_reducible refine Calls.mono hE ?_; rintro e w3 ⟨rfl, hb3⟩; have hB3 := htr _ _ _ hb2 hb3; have hF := hd2 w3 hB3)
          | (with_reducible refine Calls.mono hF ?_; rintro e w4 ⟨rfl, hb4⟩; have hB4 := htr _ _ _ hB3 hb4; have hG := hcp w4 hB4)
          | (with_reducible refine Calls.mono hG ?_; rintro e w5 ⟨rfl, hb5⟩; have hB5 := htr _ _ _ hB4 hb5))
        all_goals go_ret
        all_goals exact ⟨congrArg (fun t => Ending.returned (.string t)) HV.out, htr _ _ _ hbel hB5⟩
end Go.Proofs.YtgfgpepdkffhbaaGreatDoor.Kl
namespace Go.Proofs.YtgfgpepdkffhbaaGreatDoor.Kl
open Go.RowKit Go.Shelf
set_option linter.unusedVariables false
set_option linter.unusedSimpArgs false

/-- what Parts answers: numerator, denominator, and whether the bytes write a right number. -/
def PartsIs (e : Ending) (a b : ByteArray) (P : Prop) : Prop := ∃ c : Bool, e = .returned (.tuple #[.string a, .string b, .bool c]) ∧ (P → c = true) ∧ (¬ P → c = false)

set_option maxRecDepth 100000 in
theorem refParts_plain (s : ByteArray) (hs : s.size ≤ 4294967280) (h47 : (47 : UInt8) ∉ s.data.toList) (w : World) :
    Calls Tryz.prog 14 #[.string s] w fun e w' => PartsIs e s (txt 1) (RightR s.data.toList) ∧ Below w.heap.size w w' := by
  rw [rightR_plain h47]
  have hri := fun w => right_any s (by omega) w
  rw [← txt_one']
  have HN := Lib.hid h47; clear h47
  go_enter Tryz.func14, Tryz.ntmps14
  go_wp2_with fail
  go_loopw [6, 7] (fun av iv wr => ∃ k : Nat, av = .int .i64 (-1) ∧ iv = .int .i64 (k : Int) ∧ k ≤ s.size ∧ Below w.heap.size w wr) (fun _ iv _ => s.size - (intOf iv).toNat)
  case atStart => exact ⟨0, rfl, rfl, Nat.zero_le _, Below.refl _ _⟩
  case round =>
    obtain ⟨k, rfl, rfl, hk, hbel⟩ := hrel
    by_cases hkl : k < s.size
    · obtain ⟨u, hu⟩ : ∃ u, s[k]'hkl = u := ⟨_, rfl⟩
      have hne : ¬ (u.toNat : Int) = 47 := by
        intro h
        apply HN.out
        have hu47 : u = 47 := UInt8.toNat_inj.1 (by rw [show (47 : UInt8).toNat = 47 from rfl]; omega)
        have h3 : s.data.toList[k]? = some (s[k]'hkl) := by
          rw [List.getElem?_eq_getElem (by rw [← Lib.size_eq]; exact hkl)]; rfl
        rw [hu, hu47] at h3
        exact List.mem_of_getElem? h3
      go_wp2_with fail
      exact ⟨⟨k + 1, rfl, by congr 1, hkl, hbel⟩, by simp [intOf]; omega⟩
    · have hrr := hri wr
      go_wp2_with fail
      with_reducible refine Calls.mono hrr ?_
      rintro e w2 ⟨⟨c, rfl, h1, h2⟩, hb2⟩
      have HY := Lib.hid h1
      have HZ := Lib.hid h2
      clear h1 h2 hrr hri
      go_wp2_with fail
      go_ret3
      exact ⟨⟨c, rfl, HY.out, HZ.out⟩, hbel.trans (hb2.mono hbel.size)⟩

theorem sign_gt {d : Int} (z : Int) (hz : (d - 1).sign = z) : 0 < z ↔ 1 < d := by
  rw [← hz]
  rcases Int.lt_trichotomy (d - 1) 0 with h | h | h
  · rw [Int.sign_eq_neg_one_of_neg h]; omega
  · rw [h]; simp; omega
  · rw [Int.sign_eq_one_of_pos h]; omega

theorem rightI_txt {x : Int} (h : (Lib.decDigits x.natAbs).length ≤ 200) : RightI (txt x).data.toList := ⟨x, txt_list x, h⟩

set_option maxRecDepth 100000 in
set_option maxHeartbeats 1000000 in
theorem refParts_slash (a b : List UInt8) (h47 : (47 : UInt8) ∉ a) (hs : (a ++ 47 :: b).length ≤ 4294967280) (w : World) (hW : Wd w) :
    Calls Tryz.prog 14 #[.string ⟨(a ++ 47 :: b).toArray⟩] w fun e w' => PartsIs e ⟨a.toArray⟩ ⟨b.toArray⟩ (RightR (a ++ 47 :: b)) ∧ Below w.heap.size w w' := by
  have hsl := rightR_slash (b := b) h47
  have hl : (⟨(a ++ 47 :: b).toArray⟩ : ByteArray).data.toList = a ++ 47 :: b := by simp
  have hsz : (⟨(a ++ 47 :: b).toArray⟩ : ByteArray).size = a.length + 1 + b.length := by rw [Lib.size_eq, hl]; simp; omega
  have hal : a.length ≤ 4294967280 := by simp at hs; omega
  have hbl : b.length ≤ 4294967280 := by simp at hs; omega
  have hsa : (⟨a.toArray⟩ : ByteArray).data.toList = a := by simp
  have hsb : (⟨b.toArray⟩ : ByteArray).data.toList = b := by simp
  have hza : (⟨a.toArray⟩ : ByteArray).size ≤ 4294967296 := by rw [Lib.size_eq, hsa]; omega
  have hzb : (⟨b.toArray⟩ : ByteArray).size ≤ 4294967296 := by rw [Lib.size_eq, hsb]; omega
  have hc1 : (⟨(a ++ 47 :: b).toArray⟩ : ByteArray).extract 0 a.length = ⟨a.toArray⟩ := by
    apply bytes_ext
    have := Lib.extract_data (⟨(a ++ 47 :: b).toArray⟩ : ByteArray) 0 a.length
    rw [this, hl]; simp
  have hc2 : (⟨(a ++ 47 :: b).toArray⟩ : ByteArray).extract (a.length + 1) (a.length + 1 + b.length) = ⟨b.toArray⟩ := by
    apply bytes_ext
    have := Lib.extract_data (⟨(a ++ 47 :: b).toArray⟩ : ByteArray) (a.length + 1) (a.length + 1 + b.length)
    rw [this, hl]
    simp [List.drop_append, List.drop_eq_nil_of_le (Nat.le_succ a.length)]
  obtain ⟨S, hS⟩ : ∃ S, (⟨(a ++ 47 :: b).toArray⟩ : ByteArray) = S := ⟨_, rfl⟩
  rw [hS] at hl hsz hc1 hc2 ⊢
  have hr1 := fun w => right_any ⟨a.toArray⟩ hza w
  have hr2 := fun w => right_any ⟨b.toArray⟩ hzb w
  rw [hsa] at hr1
  rw [hsb] at hr2
  have HSL := Lib.hid hsl
  have HLL := Lib.hid hl
  obtain ⟨SA, hSA⟩ : ∃ SA : ByteArray, ⟨a.toArray⟩ = SA := ⟨_, rfl⟩
  obtain ⟨SB, hSB⟩ : ∃ SB : ByteArray, ⟨b.toArray⟩ = SB := ⟨_, rfl⟩
  rw [hSA] at hr1 hc1 ⊢
  rw [hSB] at hr2 hc2 ⊢
  have HSA := Lib.hid hSA
  have HSB := Lib.hid hSB
  have HN := Lib.hid h47
  obtain ⟨P, hP⟩ : ∃ P : Prop, RightR (a ++ 47 :: b) = P := ⟨_, rfl⟩
  rw [hP]
  have HP := Lib.hid hP
  obtain ⟨la, hla⟩ : ∃ la, a.length = la := ⟨_, rfl⟩
  obtain ⟨lb, hlb⟩ : ∃ lb, b.length = lb := ⟨_, rfl⟩
  rw [hla, hlb] at hsz hc2
  rw [hla] at hc1 hal
  rw [hlb] at hbl
  have HLA := Lib.hid hla
  clear hsl hl hsa hsb hza hzb hS hSA hSB h47 hP hla hlb hs
  go_enter Tryz.func14, Tryz.ntmps14
  go_wp2_with fail
  go_loopw [6, 7] (fun av iv wr => ∃ k : Nat, av = .int .i64 (if k ≤ la then -1 else (la : Int)) ∧ iv = .int .i64 (k : Int) ∧ k ≤ S.size ∧ Below w.heap.size w wr) (fun _ iv _ => S.size - (intOf iv).toNat)
  case atStart => exact ⟨0, by rw [if_pos (Nat.zero_le _)], rfl, Nat.zero_le _, Below.refl _ _⟩
  case round =>
    obtain ⟨k, rfl, rfl, hk, hbel⟩ := hrel
    by_cases hkl : k < S.size
    · obtain ⟨u, hu⟩ : ∃ u, S[k]'hkl = u := ⟨_, rfl⟩
      have h3 : S.data.toList[k]? = some u := by
        rw [List.getElem?_eq_getElem (by rw [← Lib.size_eq]; exact hkl), ← hu]; rfl
      rw [HLL.out] at h3
      have hla := HLA.out
      by_cases hka : k < la
      · have hne : ¬ (u.toNat : Int) = 47 := by
          intro h
          have hu47 : u = 47 := UInt8.toNat_inj.1 (by rw [show (47 : UInt8).toNat = 47 from rfl]; omega)
          rw [List.getElem?_append_left (by omega), hu47] at h3
          exact HN.out (List.mem_of_getElem? h3)
        rw [if_pos (by omega)]
        clear h3 hla
        go_wp2_with fail
        exact ⟨⟨k + 1, by rw [if_pos (by omega)], by congr 1, hkl, hbel⟩, by simp [intOf]; omega⟩
      · by_cases hke : k = la
        · have h47' : (u.toNat : Int) = 47 := by
            rw [List.getElem?_append_right (by omega), show k - a.length = 0 by omega] at h3
            cases h3; rfl
          rw [if_pos (by omega)]
          clear h3 hla hka
          subst hke
          go_wp2_with fail
          exact ⟨⟨k + 1, by rw [if_neg (by omega)], by congr 1, hkl, hbel⟩, by simp [intOf]; omega⟩
        · rw [if_neg (by omega)]
          clear h3 hla
          have hge : ¬ (la : Int) < 0 := by omega
          by_cases hu47 : (u.toNat : Int) = 47
          · go_wp2_with fail
            exact ⟨⟨k + 1, by rw [if_neg (by omega)], by congr 1, hkl, hbel⟩, by simp [intOf]; omega⟩
          · go_wp2_with fail
            exact ⟨⟨k + 1, by rw [if_neg (by omega)], by congr 1, hkl, hbel⟩, by simp [intOf]; omega⟩
    · rw [if_neg (by omega)]
      have hge : ¬ (la : Int) < 0 := by omega
      have h1l : (la : Int) ≤ (S.size : Int) := by omega
      have h2l : (la : Int) + 1 ≤ (S.size : Int) := by omega
      have hbd : Below w.heap.size w wr.drew := hbel.drew
      go_wp2_with fail
      go_region
      have hA := hr1 wr.drew
      by_cases hra : RightI a
      rotate_left
      · have HR := Lib.hid (show ¬ P from fun h => by
          rw [← HP.out] at h
          obtain ⟨n, d, e1, e2, l1, l2, _⟩ := HSL.out.1 h
          exact hra ⟨n, e1, l1⟩)
        have HRA := Lib.hid hra; clear hra
        go_wp2_with (with_reducible refine Calls.mono hA ?_; rintro e w2 ⟨hbo, hb2⟩; have hbt := hbo.no HRA.out; clear hbo; subst hbt)
        go_ret3
        exact ⟨⟨false, rfl, fun h => absurd h HR.out, fun _ => rfl⟩, hbd.trans (hb2.mono hbd.size)⟩
      · by_cases hrb : RightI b
        rotate_left
        · have HR := Lib.hid (show ¬ P from fun h => by
            rw [← HP.out] at h
            obtain ⟨n, d, e1, e2, l1, l2, _⟩ := HSL.out.1 h
            exact hrb ⟨d, e2, l2⟩)
          have HRA := Lib.hid hra; clear hra
          have HRB := Lib.hid hrb; clear hrb
          go_wp2_with (first
            | (with_reducible refine Calls.mono hA ?_; rintro e w2 ⟨hbo, hb2⟩; have hbt := hbo.yes HRA.out; clear hbo; subst hbt; have hB := hr2 w2)
            | (with_reducible refine Calls.mono hB ?_; rintro e w3 ⟨hbo, hb3⟩; have hbt := hbo.no HRB.out; clear hbo; subst hbt))
          go_ret3
          have hB2 := hbd.trans (hb2.mono hbd.size)
          exact ⟨⟨false, rfl, fun h => absurd h HR.out, fun _ => rfl⟩, hB2.trans (hb3.mono hB2.size)⟩
        · have HRA := Lib.hid hra
          have HRB := Lib.hid hrb
          obtain ⟨n, hn, hnl⟩ := hra
          obtain ⟨d, hd, hdl⟩ := hrb
          have hnS : SA = txt n := by rw [← HSA.out, hn]; rfl
          have hdS : SB = txt d := by rw [← HSB.out, hd]; rfl
          have hnD : DL n 200 := hnl
          have hdD : DL d 200 := hdl
          have hd1 : DL 1 98000 := by unfold DL; rw [show (1 : Int).natAbs = 1 from rfl, dec_small (by decide)]; decide
          have hcp := fun w hW => refCompare_any d 1 (hdD.mono (by decide)) hd1 w hW
          have hgc := fun w hW => refGcd_any n d (hnD.mono (by decide)) (hdD.mono (by decide)) w hW
          have hgo := txt_is_one ((Nat.gcd n.natAbs d.natAbs : Nat) : Int)
          obtain ⟨g, hg⟩ : ∃ g : Int, ((Nat.gcd n.natAbs d.natAbs : Nat) : Int) = g := ⟨_, rfl⟩
          obtain ⟨z, hz⟩ : ∃ z, (d - 1).sign = z := ⟨_, rfl⟩
          have hzs := sign_gt z hz
          rw [← txt_one', hz] at hcp
          rw [hg] at hgc hgo
          rw [← hnS, ← hdS] at hgc
          rw [← hdS] at hcp
          have hiff : P ↔ 1 < d ∧ g = 1 := by
            rw [← HP.out, HSL.out]
            constructor
            · rintro ⟨n', d', e1, e2, _, _, h1, h2, h3⟩
              have en := itoa_inj (e1.symm.trans hn)
              have ed := itoa_inj (e2.symm.trans hd)
              rw [ed] at h1 h3
              rw [en] at h3
              exact ⟨h1, by omega⟩
            · rintro ⟨h1, h2⟩
              refine ⟨n, d, hn, hd, hnl, hdl, h1, ?_, by omega⟩
              intro h0
              rw [h0] at hg
              rw [show (0 : Int).natAbs = 0 from rfl, Nat.gcd_zero_left] at hg
              omega
          have hbt1 : ∀ w2, Below wr.drew.heap.size wr.drew w2 → Below w.heap.size w w2 := fun w2 h => hbd.trans (h.mono hbd.size)
          have htr : ∀ a b c : World, Below a.heap.size a b → Below b.heap.size b c → Below a.heap.size a c := fun a b c h1 h2 => h1.trans (h2.mono h1.size)
          clear hn hd hg hz hnS hdS hnl hdl hnD hdD
          by_cases h1 : 1 < d
          · have hz1 : 0 < z := hzs.2 h1
            by_cases h2 : g = 1
            · rw [decide_eq_true h2] at hgo
              have HR := Lib.hid (hiff.2 ⟨h1, h2⟩)
              clear hiff h1 h2 hzs
              go_wp2_with (first
                | (with_reducible refine Calls.mono hA ?_; rintro e w2 ⟨hbo, hb2⟩; have hbt := hbo.yes HRA.out; clear hbo; subst hbt; have hB2 := hbt1 w2 hb2; have hB := hr2 w2)
                | (with_reducible refine Calls.mono hB ?_; rintro e w3 ⟨hbo, hb3⟩; have hbt := hbo.yes HRB.out; clear hbo; subst hbt; have hB3 := htr _ _ _ hB2 hb3; have hC := hcp w3 (hW.below hB3))
                | (with_reducible refine Calls.mono hC ?_; rintro e w4 ⟨rfl, hb4⟩; have hB4 := htr _ _ _ hB3 hb4; have hD := hgc w4 (hW.below hB4))
                | (with_reducible refine Calls.mono hD ?_; rintro e w5 ⟨rfl, hb5⟩))
              go_ret3
              exact ⟨⟨true, rfl, fun _ => rfl, fun h => absurd HR.out h⟩, htr _ _ _ hB4 hb5⟩
            · rw [decide_eq_false h2] at hgo
              have HR := Lib.hid (show ¬ P from fun h => h2 (hiff.1 h).2)
              clear hiff h1 h2 hzs
              go_wp2_with (first
                | (with_reducible refine Calls.mono hA ?_; rintro e w2 ⟨hbo, hb2⟩; have hbt := hbo.yes HRA.out; clear hbo; subst hbt; have hB2 := hbt1 w2 hb2; have hB := hr2 w2)
                | (with_reducible refine Calls.mono hB ?_; rintro e w3 ⟨hbo, hb3⟩; have hbt := hbo.yes HRB.out; clear hbo; subst hbt; have hB3 := htr _ _ _ hB2 hb3; have hC := hcp w3 (hW.below hB3))
                | (with_reducible refine Calls.mono hC ?_; rintro e w4 ⟨rfl, hb4⟩; have hB4 := htr _ _ _ hB3 hb4; have hD := hgc w4 (hW.below hB4))
                | (with_reducible refine Calls.mono hD ?_; rintro e w5 ⟨rfl, hb5⟩))
              go_ret3
              exact ⟨⟨false, rfl, fun h => absurd h HR.out, fun _ => rfl⟩, htr _ _ _ hB4 hb5⟩
          · have hz1 : ¬ 0 < z := fun h => h1 (hzs.1 h)
            have HR := Lib.hid (show ¬ P from fun h => h1 (hiff.1 h).1)
            clear hiff h1 hzs
            go_wp2_with (first
              | (with_reducible refine Calls.mono hA ?_; rintro e w2 ⟨hbo, hb2⟩; have hbt := hbo.yes HRA.out; clear hbo; subst hbt; have hB2 := hbt1 w2 hb2; have hB := hr2 w2)
              | (with_reducible refine Calls.mono hB ?_; rintro e w3 ⟨hbo, hb3⟩; have hbt := hbo.yes HRB.out; clear hbo; subst hbt; have hB3 := htr _ _ _ hB2 hb3; have hC := hcp w3 (hW.below hB3))
              | (with_reducible refine Calls.mono hC ?_; rintro e w4 ⟨rfl, hb4⟩; have hB4 := htr _ _ _ hB3 hb4))
            go_ret3
            exact ⟨⟨false, rfl, fun h => absurd h HR.out, fun _ => rfl⟩, hB4⟩

/-- Parts of a right number. -/
theorem refParts_right (q : Rat) (h1 : (Lib.decDigits q.num.natAbs).length ≤ 200) (h2 : (Lib.decDigits q.den).length ≤ 200) (w : World) (hW : Wd w) :
    Calls Tryz.prog 14 #[.string (rtxt q)] w fun e w' => e = .returned (.tuple #[.string (txt q.num), .string (txt (q.den : Int)), .bool true]) ∧ Below w.heap.size w w' := by
  have hR : RightR (rtl q) := ⟨q, rfl, h1, h2⟩
  have hl : (rtl q).length ≤ 500 := by
    have := rtl_len q
    have h3 := dig_len h1
    have h4 : (Lib.itoa (q.den : Int)).length ≤ 200 := by rw [itoa_nat]; exact h2
    omega
  by_cases hd : q.den = 1
  · have hr : rtl q = Lib.itoa q.num := by unfold rtl jtl; rw [if_pos (by omega)]
    have hrt : rtxt q = txt q.num := by unfold rtxt; rw [hr]; rfl
    have := refParts_plain (txt q.num) (by rw [txt_size, ← hr]; omega) (by rw [txt_list]; exact itoa_no47 _) w
    rw [hrt, hd]
    refine this.mono ?_
    rintro e w' ⟨⟨c, rfl, hy, _⟩, hb⟩
    rw [txt_list, ← hr] at hy
    rw [hy hR]
    exact ⟨rfl, hb⟩
  · have hr : rtl q = Lib.itoa q.num ++ 47 :: Lib.itoa (q.den : Int) := by unfold rtl jtl; rw [if_neg (by omega)]
    have hrt : rtxt q = ⟨(Lib.itoa q.num ++ 47 :: Lib.itoa (q.den : Int)).toArray⟩ := by unfold rtxt; rw [hr]
    have := refParts_slash (Lib.itoa q.num) (Lib.itoa (q.den : Int)) (itoa_no47 _) (by rw [← hr]; omega) w hW
    rw [hrt]
    refine this.mono ?_
    rintro e w' ⟨⟨c, rfl, hy, _⟩, hb⟩
    rw [← hr] at hy
    rw [hy hR]
    exact ⟨rfl, hb⟩

/-- Parts of other bytes: it says that they are not right. -/
theorem refParts_wrong (s : ByteArray) (hs : s.size ≤ 4294967280) (hn : ¬ RightR s.data.toList) (w : World) (hW : Wd w) :
    Calls Tryz.prog 14 #[.string s] w fun e w' => (∃ a b : ByteArray, e = .returned (.tuple #[.string a, .string b, .bool false])) ∧ Below w.heap.size w w' := by
  rcases split_at_byte s.data.toList 47 with h | ⟨a, b, e, h⟩
  · refine (refParts_plain s hs h w).mono ?_
    rintro e w' ⟨⟨c, rfl, _, hz⟩, hb⟩
    rw [hz hn]
    exact ⟨⟨_, _, rfl⟩, hb⟩
  · have hs' : s = ⟨(a ++ 47 :: b).toArray⟩ := by apply bytes_ext; simp [e]
    rw [Lib.size_eq, e] at hs
    rw [e] at hn
    rw [hs']
    refine (refParts_slash a b h hs w hW).mono ?_
    rintro e w' ⟨⟨c, rfl, _, hz⟩, hb⟩
    rw [hz hn]
    exact ⟨⟨_, _, rfl⟩, hb⟩
end Go.Proofs.YtgfgpepdkffhbaaGreatDoor.Kl
namespace Go.Proofs.YtgfgpepdkffhbaaGreatDoor.Kl
open Go.RowKit Go.Shelf
set_option linter.unusedVariables false
set_option linter.unusedSimpArgs false

theorem DL.ediv {x g : Int} {k : Nat} (hx : DL x k) : DL (x / g) k := by
  apply DL.of_lt _ hx.one_le
  exact Nat.lt_of_le_of_lt (Int.natAbs_ediv_le_natAbs x g) hx.lt

set_option maxHeartbeats 1000000 in
theorem refMake_any (n d : Int) (hd : 0 < d) (hn : DL n 90000) (hdl : DL d 90000) (w : World) (hW : Wd w) :
    Calls Tryz.prog 20 #[.string (txt n), .string (txt d)] w fun e w' => e = .returned (.string (rtxt (Rat.divInt n d))) ∧ Below w.heap.size w w' := by
  have hgc := refGcd_any n d (hn.mono (by decide)) (hdl.mono (by decide)) w hW
  have hgp : 0 < Nat.gcd n.natAbs d.natAbs := Nat.gcd_pos_of_pos_right _ (by omega)
  have hgd : DL ((Nat.gcd n.natAbs d.natAbs : Nat) : Int) 90000 := by
    apply DL.of_lt _ (by decide)
    rw [Int.natAbs_natCast]
    exact Nat.lt_of_le_of_lt (Nat.gcd_le_right _ (by omega)) hdl.lt
  obtain ⟨g, hg⟩ : ∃ g : Int, ((Nat.gcd n.natAbs d.natAbs : Nat) : Int) = g := ⟨_, rfl⟩
  have hlp := lowest_plain hd g hg
  have hr : rtxt (Rat.divInt n d) = ⟨(jtl (n / g) (d / g)).toArray⟩ := by unfold rtxt; rw [hlp]
  rw [hg] at hgc hgd
  have hg1 : g ≠ 0 := by omega
  rw [hr]
  clear hlp hr hg hgp
  have hdm1 := fun w hW => refDivMod_any n g hg1 (hn.mono (by decide)) (hgd.mono (by decide)) w hW
  have hdm2 := fun w hW => refDivMod_any d g hg1 (hdl.mono (by decide)) (hgd.mono (by decide)) w hW
  have l1 := (hn.ediv (g := g)).itoa
  have l2 := (hdl.ediv (g := g)).itoa
  obtain ⟨n', hn'⟩ : ∃ n', n / g = n' := ⟨_, rfl⟩
  obtain ⟨d', hd'⟩ : ∃ d', d / g = d' := ⟨_, rfl⟩
  rw [hn'] at hdm1 l1 ⊢
  rw [hd'] at hdm2 l2 ⊢
  have h1 := txt_is_one d'
  have s1 := txt_size n'
  have s2 := txt_size d'
  have htr : ∀ a b c : World, Below a.heap.size a b → Below b.heap.size b c → Below a.heap.size a c := fun a b c h1 h2 => h1.trans (h2.mono h1.size)
  clear hn' hd' hg1
  by_cases h : d' = 1
  · have hj : txt n' = ⟨(jtl n' d').toArray⟩ := by unfold jtl; rw [if_pos h]; rfl
    rw [← hj]
    rw [decide_eq_true h] at h1
    clear hj h
    go_enter Tryz.func20, Tryz.ntmps20
    go_wp2_with (first
      | (with_reducible refine Calls.mono hgc ?_; rintro e w1 ⟨rfl, hb1⟩; have hB := hdm1 w1 (hW.below hb1))
      | (with_reducible refine Calls.mono hB ?_; rintro e w2 ⟨rfl, hb2⟩; have hB2 := htr _ _ _ hb1 hb2; have hC := hdm2 w2 (hW.below hB2))
      | (with_reducible refine Calls.mono hC ?_; rintro e w3 ⟨rfl, hb3⟩))
    go_ret
    exact ⟨rfl, htr _ _ _ hB2 hb3⟩
  · have hj : (txt n' ++ ⟨#[47]⟩) ++ txt d' = (⟨(jtl n' d').toArray⟩ : ByteArray) := by
      apply bytes_ext
      unfold jtl
      rw [if_neg h]
      simp [ByteArray.data_append, txt]
    rw [← hj]
    rw [decide_eq_false h] at h1
    clear hj h
    go_enter Tryz.func20, Tryz.ntmps20
    go_wp2_with (first
      | (with_reducible refine Calls.mono hgc ?_; rintro e w1 ⟨rfl, hb1⟩; have hB := hdm1 w1 (hW.below hb1))
      | (with_reducible refine Calls.mono hB ?_; rintro e w2 ⟨rfl, hb2⟩; have hB2 := htr _ _ _ hb1 hb2; have hC := hdm2 w2 (hW.below hB2))
      | (with_reducible refine Calls.mono hC ?_; rintro e w3 ⟨rfl, hb3⟩))
    go_ret
    exact ⟨rfl, htr _ _ _ hB2 hb3⟩

/-- a right number's parts have at most 200 digits. -/
def RS (q : Rat) : Prop := (Lib.decDigits q.num.natAbs).length ≤ 200 ∧ (Lib.decDigits q.den).length ≤ 200
theorem RS.num {q : Rat} (h : RS q) : DL q.num 200 := h.1
theorem RS.den {q : Rat} (h : RS q) : DL (q.den : Int) 200 := by unfold DL; rw [Int.natAbs_natCast]; exact h.2

theorem refTimes_any (a b : Rat) (ha : RS a) (hb : RS b) (w : World) (hW : Wd w) :
    Calls Tryz.prog 46 #[.string (rtxt a), .string (rtxt b)] w fun e w' => e = .returned (.string (rtxt (a * b))) ∧ Below w.heap.size w w' := by
  have hp1 := refParts_right a ha.1 ha.2 w hW
  have hp2 := fun w hW => refParts_right b hb.1 hb.2 w hW
  have hm1 := fun w hW => refMul_any a.num b.num (ha.num.mono (by decide)) (hb.num.mono (by decide)) w hW
  have hm2 := fun w hW => refMul_any (a.den : Int) (b.den : Int) (ha.den.mono (by decide)) (hb.den.mono (by decide)) w hW
  have hda := a.den_pos
  have hdb := b.den_pos
  have hdp : 0 < (a.den : Int) * (b.den : Int) := Int.mul_pos (by omega) (by omega)
  have hmk := fun w hW => refMake_any (a.num * b.num) ((a.den : Int) * (b.den : Int)) hdp ((ha.num.mul hb.num (by decide)).mono (by decide)) ((ha.den.mul hb.den (by decide)).mono (by decide)) w hW
  rw [mul_divInt] at hmk
  have htr : ∀ a b c : World, Below a.heap.size a b → Below b.heap.size b c → Below a.heap.size a c := fun a b c h1 h2 => h1.trans (h2.mono h1.size)
  clear hda hdb hdp
  go_enter Tryz.func46, Tryz.ntmps46
  go_wp2_with (first
    | (with_reducible refine Calls.mono hp1 ?_; rintro e w1 ⟨rfl, hb1⟩; have hB := hp2 w1 (hW.below hb1))
    | (with_reducible refine Calls.mono hB ?_; rintro e w2 ⟨rfl, hb2⟩; have hB2 := htr _ _ _ hb1 hb2; have hC := hm1 w2 (hW.below hB2))
    | (with_reducible refine Calls.mono hC ?_; rintro e w3 ⟨rfl, hb3⟩; have hB3 := htr _ _ _ hB2 hb3; have hD := hm2 w3 (hW.below hB3))
    | (with_reducible refine Calls.mono hD ?_; rintro e w4 ⟨rfl, hb4⟩; have hB4 := htr _ _ _ hB3 hb4; have hE := hmk w4 (hW.below hB4))
    | (with_reducible refine Calls.mono hE ?_; rintro e w5 ⟨rfl, hb5⟩))
  go_ret
  exact ⟨rfl, htr _ _ _ hB4 hb5⟩

theorem add_divInt (a b : Rat) : Rat.divInt (a.num * (b.den : Int) + b.num * (a.den : Int)) ((a.den : Int) * (b.den : Int)) = a + b := by
  rw [Rat.add_def', ← Int.natCast_mul, Rat.divInt_ofNat]

theorem refPlus_any (a b : Rat) (ha : RS a) (hb : RS b) (w : World) (hW : Wd w) :
    Calls Tryz.prog 81 #[.string (rtxt a), .string (rtxt b)] w fun e w' => e = .returned (.string (rtxt (a + b))) ∧ Below w.heap.size w w' := by
  have hp1 := refParts_right a ha.1 ha.2 w hW
  have hp2 := fun w hW => refParts_right b hb.1 hb.2 w hW
  have hm1 := fun w hW => refMul_any a.num (b.den : Int) (ha.num.mono (by decide)) (hb.den.mono (by decide)) w hW
  have hm2 := fun w hW => refMul_any b.num (a.den : Int) (hb.num.mono (by decide)) (ha.den.mono (by decide)) w hW
  have hm3 := fun w hW => refMul_any (a.den : Int) (b.den : Int) (ha.den.mono (by decide)) (hb.den.mono (by decide)) w hW
  have hda := a.den_pos
  have hdb := b.den_pos
  have hdp : 0 < (a.den : Int) * (b.den : Int) := Int.mul_pos (by omega) (by omega)
  have d1 := ha.num.mul hb.den (by decide)
  have d2 := hb.num.mul ha.den (by decide)
  have had := fun w hW => refAdd_any (a.num * (b.den : Int)) (b.num * (a.den : Int)) (d1.mono (by decide)) (d2.mono (by decide)) w hW
  have hmk := fun w hW => refMake_any (a.num * (b.den : Int) + b.num * (a.den : Int)) ((a.den : Int) * (b.den : Int)) hdp ((d1.add d2).mono (by decide)) ((ha.den.mul hb.den (by decide)).mono (by decide)) w hW
  rw [add_divInt] at hmk
  have htr : ∀ a b c : World, Below a.heap.size a b → Below b.heap.size b c → Below a.heap.size a c := fun a b c h1 h2 => h1.trans (h2.mono h1.size)
  clear hda hdb hdp d1 d2
  go_enter Tryz.func81, Tryz.ntmps81
  go_wp2_with (first
    | (with_reducible refine Calls.mono hp1 ?_; rintro e w1 ⟨rfl, hb1⟩; have hB := hp2 w1 (hW.below hb1))
    | (with_reducible refine Calls.mono hB ?_; rintro e w2 ⟨rfl, hb2⟩; have hB2 := htr _ _ _ hb1 hb2; have hC := hm1 w2 (hW.below hB2))
    | (with_reducible refine Calls.mono hC ?_; rintro e w3 ⟨rfl, hb3⟩; have hB3 := htr _ _ _ hB2 hb3; have hD := hm2 w3 (hW.below hB3))
    | (with_reducible refine Calls.mono hD ?_; rintro e w4 ⟨rfl, hb4⟩; have hB4 := htr _ _ _ hB3 hb4; have hE := had w4 (hW.below hB4))
    | (with_reducible refine Calls.mono hE ?_; rintro e w5 ⟨rfl, hb5⟩; have hB5 := htr _ _ _ hB4 hb5; have hF := hm3 w5 (hW.below hB5))
    | (with_reducible refine Calls.mono hF ?_; rintro e w6 ⟨rfl, hb6⟩; have hB6 := htr _ _ _ hB5 hb6; have hG := hmk w6 (hW.below hB6))
    | (with_reducible refine Calls.mono hG ?_; rintro e w7 ⟨rfl, hb7⟩))
  go_ret
  exact ⟨rfl, htr _ _ _ hB6 hb7⟩

theorem txt_beq (x y : Int) : ((txt x).toList == (txt y).toList) = decide (x = y) := by
  rw [ByteArray.toList_eq, ByteArray.toList_eq, txt_list, txt_list]
  by_cases h : x = y
  · subst h; simp
  · have : Lib.itoa x ≠ Lib.itoa y := fun e => h (itoa_inj e)
    simp [h, this]

theorem isqrt_le_self (n : Nat) : isqrt n ≤ n := by
  have := isqrt_le n
  rcases Nat.eq_zero_or_pos (isqrt n) with h | h
  · omega
  · exact Nat.le_trans (Nat.le_mul_of_pos_left _ h) this

theorem refSquare_any (n : Nat) (hn : DL (n : Int) 90000) (w : World) (hW : Wd w) :
    Calls Tryz.prog 36 #[.string (txt (n : Int))] w fun e w' => e = .returned (.tuple #[.string (txt ((isqrt n : Nat) : Int)), .bool (decide (isqrt n * isqrt n = n))]) ∧ Below w.heap.size w w' := by
  have hr := refRoot_any n hn w hW
  have hs : DL ((isqrt n : Nat) : Int) 90000 := hn.le (isqrt_le_self n) (by decide)
  have hm := fun w hW => refMul_any ((isqrt n : Nat) : Int) ((isqrt n : Nat) : Int) (hs.mono (by decide)) (hs.mono (by decide)) w hW
  rw [← Int.natCast_mul] at hm
  have hb := txt_beq ((isqrt n * isqrt n : Nat) : Int) (n : Int)
  have hd : decide (((isqrt n * isqrt n : Nat) : Int) = (n : Int)) = decide (isqrt n * isqrt n = n) := by
    by_cases h : isqrt n * isqrt n = n
    · rw [h]; simp
    · rw [decide_eq_false h, decide_eq_false (by omega)]
  rw [hd] at hb
  have htr : ∀ a b c : World, Below a.heap.size a b → Below b.heap.size b c → Below a.heap.size a c := fun a b c h1 h2 => h1.trans (h2.mono h1.size)
  obtain ⟨bb, hbb⟩ : ∃ bb, decide (isqrt n * isqrt n = n) = bb := ⟨_, rfl⟩
  rw [hbb] at hb ⊢
  obtain ⟨S, hS⟩ : ∃ S, txt ((isqrt n * isqrt n : Nat) : Int) = S := ⟨_, rfl⟩
  rw [hS] at hm hb
  clear hd hbb hS
  go_enter Tryz.func36, Tryz.ntmps36
  go_wp2_with (first
    | (with_reducible refine Calls.mono hr ?_; rintro e w1 ⟨rfl, hb1⟩; have hB := hm w1 (hW.below hb1))
    | (with_reducible refine Calls.mono hB ?_; rintro e w2 ⟨rfl, hb2⟩))
  go_ret2
  exact ⟨rfl, htr _ _ _ hb1 hb2⟩

theorem refAlike_any (a b : Nat) (ha : DL (a : Int) 40000) (hb : DL (b : Int) 40000) (w : World) (hW : Wd w) :
    Calls Tryz.prog 80 #[.string (txt (a : Int)), .string (txt (b : Int))] w fun e w' => e = .returned (.tuple #[.string (txt ((isqrt (a * b) : Nat) : Int)), .bool (decide (isqrt (a * b) * isqrt (a * b) = a * b))]) ∧ Below w.heap.size w w' := by
  have hm := refMul_any (a : Int) (b : Int) (ha.mono (by decide)) (hb.mono (by decide)) w hW
  have hd : DL ((a * b : Nat) : Int) 90000 := by rw [Int.natCast_mul]; exact (ha.mul hb (by decide)).mono (by decide)
  have hs := fun w hW => refSquare_any (a * b) hd w hW
  rw [← Int.natCast_mul] at hm
  obtain ⟨c, hc⟩ : ∃ c, a * b = c := ⟨_, rfl⟩
  rw [hc] at hm hs ⊢
  go_enter Tryz.func80, Tryz.ntmps80
  go_wp2_with (first
    | (with_reducible refine Calls.mono hm ?_; rintro e w1 ⟨rfl, hb1⟩; have hB := hs w1 (hW.below hb1))
    | (with_reducible refine Calls.mono hB ?_; rintro e w2 ⟨rfl, hb2⟩))
  go_ret2
  exact ⟨rfl, hb1.trans (hb2.mono hb1.size)⟩
end Go.Proofs.YtgfgpepdkffhbaaGreatDoor.Kl
