/- integer.Add (whole), integer.Mul. integer.DivMod. integer.Gcd. integer.Power. -/
import Derived.Test.YtgfgpepdkffhbaaGreatDoorAddBig
import Derived.Test.YtgfgpepdkffhbaaGreatDoorSign
namespace Go.Proofs.YtgfgpepdkffhbaaGreatDoor.Kl
open Go.RowKit Go.Shelf
set_option linter.unusedVariables false
set_option linter.unusedSimpArgs false

theorem add_any (x y : Int) (w : World) (hW : Wd w) (hxm : (Lib.itoa x).length ≤ 2147483648) (hym : (Lib.itoa y).length ≤ 2147483648) :
    Calls Tryz.prog 45 #[.string (txt x), .string (txt y)] w fun e w' => e = .returned (.string (txt (x + y))) ∧ Below w.heap.size w w' := by
  by_cases h : 18 < (Lib.itoa x).length ∨ 18 < (Lib.itoa y).length
  · exact add_big x y w hW h hxm hym
  · exact add_small x y w hW (by omega) (by omega)

theorem mul_lt18 {x y : Int} (hx : (Lib.itoa x).length ≤ 9) (hy : (Lib.itoa y).length ≤ 9) : -1000000000000000000 ≤ x * y ∧ x * y ≤ 1000000000000000000 := by
  have h := Nat.mul_lt_mul'' (itoa_small hx) (itoa_small hy)
  rw [← Int.natAbs_mul] at h
  have : (10 : Nat) ^ 9 * 10 ^ 9 = 1000000000000000000 := by decide
  omega

theorem mul_small (x y : Int) (w : World) (hW : Wd w) (hx : (Lib.itoa x).length ≤ 9) (hy : (Lib.itoa y).length ≤ 9) :
    Calls Tryz.prog 30 #[.string (txt x), .string (txt y)] w fun e w' => e = .returned (.string (txt (x * y))) ∧ Below w.heap.size w w' := by
  have hc1 := quick_yes x 9 (by decide) hx w
  have b1 := mul_lt18 hx hy
  have h0 : -9223372036854775808 ≤ x * y := by omega
  have h1 : x * y ≤ 9223372036854775807 := by omega
  clear b1
  obtain ⟨z, hz⟩ : ∃ z, x * y = z := ⟨_, rfl⟩
  have hw : wrap64 (x * y) = z := by rw [hz]; exact IntWalk.wrap64_in _ ⟨by omega, by omega⟩
  rw [hz] at h0 h1 ⊢
  go_enter Tryz.func30, Tryz.ntmps30
  go_wp2_with (first
    | (with_reducible refine Calls.mono hc1 ?_; rintro e w1 ⟨rfl, hb1⟩; have hc2 := quick_yes y 9 (by decide) hy w1)
    | (with_reducible refine Calls.mono hc2 ?_; rintro e w2 ⟨rfl, hb2⟩; have hb12 := hb1.trans (hb2.mono hb1.size); have hc3 := of_any z h0 h1 w2 (hW.below hb12))
    | (with_reducible refine Calls.mono hc3 ?_; rintro e w3 ⟨rfl, hb3⟩))
  go_ret
  exact ⟨rfl, hb12.trans (hb3.mono hb12.size)⟩

theorem mul_sign (x y : Int) : (if (!(decide (x < 0) == decide (y < 0))) then -((x.natAbs * y.natAbs : Nat) : Int) else ((x.natAbs * y.natAbs : Nat) : Int)) = x * y := by
  by_cases hx : x < 0 <;> by_cases hy : y < 0 <;> simp [hx, hy]
  · rw [Int.ofNat_natAbs_of_nonpos (by omega), Int.ofNat_natAbs_of_nonpos (by omega), Int.neg_mul_neg]
  · rw [Int.ofNat_natAbs_of_nonpos (by omega), Int.natAbs_of_nonneg (by omega), Int.neg_mul, Int.neg_neg]
  · rw [Int.natAbs_of_nonneg (by omega), Int.ofNat_natAbs_of_nonpos (by omega), Int.mul_neg, Int.neg_neg]
  · rw [Int.natAbs_of_nonneg (by omega), Int.natAbs_of_nonneg (by omega)]

set_option maxHeartbeats 4000000 in
theorem mul_big (x y : Int) (w : World) (hW : Wd w) (hbig : 9 < (Lib.itoa x).length ∨ 9 < (Lib.itoa y).length) (hxm : (Lib.itoa x).length ≤ 2147483647) (hym : (Lib.itoa y).length ≤ 2147483647) :
    Calls Tryz.prog 30 #[.string (txt x), .string (txt y)] w fun e w' => e = .returned (.string (txt (x * y))) ∧ Below w.heap.size w w' := by
  have hx4 : (Lib.itoa x).length ≤ 4294967296 := by omega
  have hy4 : (Lib.itoa y).length ≤ 4294967296 := by omega
  have px := pcs_itoa x
  have py := pcs_itoa y
  rcases Nat.lt_or_ge 9 (Lib.itoa x).length with hx | hx
  rotate_left
  · have hy : 9 < (Lib.itoa y).length := by omega
    have hcA := quick_yes x 9 (by decide) hx w
    go_enter Tryz.func30, Tryz.ntmps30
    go_wp2_with (first
      | (with_reducible refine Calls.mono hcA ?_; rintro e w0 ⟨rfl, hb0⟩; have hcB := quick_no y 9 (by decide) hy w0)
      | (with_reducible refine Calls.mono hcB ?_; rintro e w1 ⟨rfl, hb1'⟩; have hb1 := hb0.trans (hb1'.mono hb0.size); have hc2 := open_any x w1 hx4)
      | (with_reducible refine Calls.mono hc2 ?_; rintro e w2 ⟨⟨A1, n1, c1, rfl, hU1⟩, hb2⟩; have hc3 := open_any y w2 hy4)
      | (with_reducible refine Calls.mono hc3 ?_; rintro e w3 ⟨⟨A2, n2, c2, rfl, hU2⟩, hb3⟩))
    all_goals (
      have hb13 : Below w.heap.size w w3 := hb1.trans ((hb2.mono hb1.size).trans (hb3.mono (Nat.le_trans hb1.size hb2.size)))
      have hU1' := (hU1.to hb3 (Nat.le_refl _))
      obtain ⟨O1, hO1⟩ : ∃ O1, Obj.cells #[Value.bool (decide (x < 0)), Value.slice A1 n1 c1] 111 = O1 := ⟨_, rfl⟩
      obtain ⟨O2, hO2⟩ : ∃ O2, Obj.cells #[Value.bool (decide (y < 0)), Value.slice A2 n2 c2] 111 = O2 := ⟨_, rfl⟩
      rw [hO1, hO2]
      have hal : Below w3.heap.size w3 ((w3.alloc O1).alloc O2) := ((Below.refl _ w3).alloc (Nat.le_refl _) O1).alloc (by simp) O2
      have hU2' := hU2
      have hV1 := hU1'.to hal (Nat.le_refl _)
      have hV2 := hU2.to hal (Nat.le_refl _)
      have hB4 := hb13.trans (hal.mono hb13.size)
      have k1 : ((w3.alloc O1).alloc O2).heap[w3.heap.size]? = some O1 := (Below.heap_alloc _ _ _ (by simp)).trans (heap_alloc_new w3 _)
      have k2 : ((w3.alloc O1).alloc O2).heap[w3.heap.size + 1]? = some O2 := by
        have := heap_alloc_new (w3.alloc O1) O2
        rwa [World.size_alloc] at this
      obtain ⟨W4, hW4⟩ : ∃ W4, (w3.alloc O1).alloc O2 = W4 := ⟨_, rfl⟩
      rw [hW4] at hal hV1 hV2 hB4 k1 k2 ⊢
      clear hW4
      subst hO1 hO2
      have hn1 := len_le hV1 (Nat.le_trans px hxm)
      have hn2 := len_le hV2 (Nat.le_trans py hym)
      obtain ⟨cx0, cx1⟩ := cell2 k1
      obtain ⟨cy0, cy1⟩ := cell2 k2
      have hl1 := lt_of_block' k1
      have hl2 := lt_of_block' k2)
    · have hsum := pcs_mul_len (Nat.le_trans px hxm) (Nat.le_trans py hym)
      have hcp := times_any A1 A2 n1 n2 c1 c2 x.natAbs y.natAbs W4.drew hV1 hV2 (by omega) (by omega)
      have hB4d : Below w.heap.size w W4.drew := hB4.drew
      have hs4 : w.heap.size ≤ W4.drew.heap.size := hB4.size
      have hz := mul_sign x y
      have d1 : W4.drew.cell? ⟨w3.heap.size, 0, none⟩ = some (.bool (decide (x < 0))) := cx0
      have d2 : W4.drew.cell? ⟨w3.heap.size, 1, none⟩ = some (.slice A1 n1 c1) := cx1
      have d4 : W4.drew.cell? ⟨w3.heap.size + 1, 0, none⟩ = some (.bool (decide (y < 0))) := cy0
      have d3 : W4.drew.cell? ⟨w3.heap.size + 1, 1, none⟩ = some (.slice A2 n2 c2) := cy1
      go_region_held3 (fun w' : World => w'.cell? ⟨w3.heap.size, 0, none⟩ = some (.bool (decide (x < 0))) ∧ w'.cell? ⟨w3.heap.size, 1, none⟩ = some (.slice A1 n1 c1) ∧ w'.cell? ⟨w3.heap.size + 1, 1, none⟩ = some (.slice A2 n2 c2) ∧ w'.cell? ⟨w3.heap.size + 1, 0, none⟩ = some (.bool (decide (y < 0)))) (first | exact ⟨by assumption, by assumption, by assumption, by assumption⟩) (first
        | (with_reducible refine Calls.mono hcp ?_; rintro e w5 ⟨⟨A5, n5, c5, rfl, hU5, hf5⟩, hb5⟩; have m1 := (hb5.block _ hl1).trans k1; have m2 := (hb5.block _ hl2).trans k2; have e0 := cell2 m1; have e1 := e0.1; have e2 := e0.2; have e3 := cell2 m2; have e4 := e3.1; have e5 := e3.2; have hB5 := hB4d.trans (hb5.mono hs4); have hcl := close_as (!(decide (x < 0) == decide (y < 0))) A5 n5 c5 _ _ hz w5 (hW.below hB5) hU5 (Nat.le_trans (len_le hU5 hsum) (Nat.le_of_ble_eq_true rfl)))
        | (with_reducible refine Calls.mono hcl ?_; rintro e w6 ⟨rfl, hb6⟩; have t1 := (hb6.block _ (lt_of_block' m1)).trans m1; have t2 := (hb6.block _ (lt_of_block' m2)).trans m2; have g1 := (cell2 t1).1; have g2 := (cell2 t1).2; have g3 := (cell2 t2).2; have g4 := (cell2 t2).1))
      all_goals go_wp2_with fail
      all_goals go_ret
      all_goals exact ⟨rfl, hB5.trans (hb6.mono (hB5.size))⟩
  · have hcA := quick_no x 9 (by decide) hx w
    go_enter Tryz.func30, Tryz.ntmps30
    go_wp2_with (first
      | (with_reducible refine Calls.mono hcA ?_; rintro e w1 ⟨rfl, hb1⟩; have hc2 := open_any x w1 hx4)
      | (with_reducible refine Calls.mono hc2 ?_; rintro e w2 ⟨⟨A1, n1, c1, rfl, hU1⟩, hb2⟩; have hc3 := open_any y w2 hy4)
      | (with_reducible refine Calls.mono hc3 ?_; rintro e w3 ⟨⟨A2, n2, c2, rfl, hU2⟩, hb3⟩))
    all_goals (
      have hb13 : Below w.heap.size w w3 := hb1.trans ((hb2.mono hb1.size).trans (hb3.mono (Nat.le_trans hb1.size hb2.size)))
      have hU1' := (hU1.to hb3 (Nat.le_refl _))
      obtain ⟨O1, hO1⟩ : ∃ O1, Obj.cells #[Value.bool (decide (x < 0)), Value.slice A1 n1 c1] 111 = O1 := ⟨_, rfl⟩
      obtain ⟨O2, hO2⟩ : ∃ O2, Obj.cells #[Value.bool (decide (y < 0)), Value.slice A2 n2 c2] 111 = O2 := ⟨_, rfl⟩
      rw [hO1, hO2]
      have hal : Below w3.heap.size w3 ((w3.alloc O1).alloc O2) := ((Below.refl _ w3).alloc (Nat.le_refl _) O1).alloc (by simp) O2
      have hU2' := hU2
      have hV1 := hU1'.to hal (Nat.le_refl _)
      have hV2 := hU2.to hal (Nat.le_refl _)
      have hB4 := hb13.trans (hal.mono hb13.size)
      have k1 : ((w3.alloc O1).alloc O2).heap[w3.heap.size]? = some O1 := (Below.heap_alloc _ _ _ (by simp)).trans (heap_alloc_new w3 _)
      have k2 : ((w3.alloc O1).alloc O2).heap[w3.heap.size + 1]? = some O2 := by
        have := heap_alloc_new (w3.alloc O1) O2
        rwa [World.size_alloc] at this
      obtain ⟨W4, hW4⟩ : ∃ W4, (w3.alloc O1).alloc O2 = W4 := ⟨_, rfl⟩
      rw [hW4] at hal hV1 hV2 hB4 k1 k2 ⊢
      clear hW4
      subst hO1 hO2
      have hn1 := len_le hV1 (Nat.le_trans px hxm)
      have hn2 := len_le hV2 (Nat.le_trans py hym)
      obtain ⟨cx0, cx1⟩ := cell2 k1
      obtain ⟨cy0, cy1⟩ := cell2 k2
      have hl1 := lt_of_block' k1
      have hl2 := lt_of_block' k2)
    · have hsum := pcs_mul_len (Nat.le_trans px hxm) (Nat.le_trans py hym)
      have hcp := times_any A1 A2 n1 n2 c1 c2 x.natAbs y.natAbs W4.drew hV1 hV2 (by omega) (by omega)
      have hB4d : Below w.heap.size w W4.drew := hB4.drew
      have hs4 : w.heap.size ≤ W4.drew.heap.size := hB4.size
      have hz := mul_sign x y
      have d1 : W4.drew.cell? ⟨w3.heap.size, 0, none⟩ = some (.bool (decide (x < 0))) := cx0
      have d2 : W4.drew.cell? ⟨w3.heap.size, 1, none⟩ = some (.slice A1 n1 c1) := cx1
      have d4 : W4.drew.cell? ⟨w3.heap.size + 1, 0, none⟩ = some (.bool (decide (y < 0))) := cy0
      have d3 : W4.drew.cell? ⟨w3.heap.size + 1, 1, none⟩ = some (.slice A2 n2 c2) := cy1
      go_region_held3 (fun w' : World => w'.cell? ⟨w3.heap.size, 0, none⟩ = some (.bool (decide (x < 0))) ∧ w'.cell? ⟨w3.heap.size, 1, none⟩ = some (.slice A1 n1 c1) ∧ w'.cell? ⟨w3.heap.size + 1, 1, none⟩ = some (.slice A2 n2 c2) ∧ w'.cell? ⟨w3.heap.size + 1, 0, none⟩ = some (.bool (decide (y < 0)))) (first | exact ⟨by assumption, by assumption, by assumption, by assumption⟩) (first
        | (with_reducible refine Calls.mono hcp ?_; rintro e w5 ⟨⟨A5, n5, c5, rfl, hU5, hf5⟩, hb5⟩; have m1 := (hb5.block _ hl1).trans k1; have m2 := (hb5.block _ hl2).trans k2; have e0 := cell2 m1; have e1 := e0.1; have e2 := e0.2; have e3 := cell2 m2; have e4 := e3.1; have e5 := e3.2; have hB5 := hB4d.trans (hb5.mono hs4); have hcl := close_as (!(decide (x < 0) == decide (y < 0))) A5 n5 c5 _ _ hz w5 (hW.below hB5) hU5 (Nat.le_trans (len_le hU5 hsum) (Nat.le_of_ble_eq_true rfl)))
        | (with_reducible refine Calls.mono hcl ?_; rintro e w6 ⟨rfl, hb6⟩; have t1 := (hb6.block _ (lt_of_block' m1)).trans m1; have t2 := (hb6.block _ (lt_of_block' m2)).trans m2; have g1 := (cell2 t1).1; have g2 := (cell2 t1).2; have g3 := (cell2 t2).2; have g4 := (cell2 t2).1))
      all_goals go_wp2_with fail
      all_goals go_ret
      all_goals exact ⟨rfl, hB5.trans (hb6.mono (hB5.size))⟩

theorem mul_any (x y : Int) (w : World) (hW : Wd w) (hxm : (Lib.itoa x).length ≤ 2147483647) (hym : (Lib.itoa y).length ≤ 2147483647) :
    Calls Tryz.prog 30 #[.string (txt x), .string (txt y)] w fun e w' => e = .returned (.string (txt (x * y))) ∧ Below w.heap.size w w' := by
  by_cases h : 9 < (Lib.itoa x).length ∨ 9 < (Lib.itoa y).length
  · exact mul_big x y w hW h hxm hym
  · exact mul_small x y w hW (by omega) (by omega)
end Go.Proofs.YtgfgpepdkffhbaaGreatDoor.Kl
namespace Go.Proofs.YtgfgpepdkffhbaaGreatDoor.Kl
open Go.RowKit Go.Shelf
set_option linter.unusedVariables false
set_option linter.unusedSimpArgs false

theorem txt_ne_zero {y : Int} (h : y ≠ 0) : ((txt y).toList == [48]) = false := by
  rw [ByteArray.toList_eq]
  apply Bool.eq_false_iff.2
  intro h'
  have h2 : (txt y).data.toList = [48] := by simpa using h'
  exact h ((txt_eq_zero y).1 (bytes_ext h2))

theorem divmod_pos {x b q r : Int} (hb : 0 < b) (h : r + b * q = x) (h0 : 0 ≤ r) (h1 : r < b) : x / b = q ∧ x % b = r :=
  (Int.ediv_emod_unique hb).2 ⟨h, h0, h1⟩

theorem nat_div_int (u v : Nat) : ((u / v : Nat) : Int) * v + ((u % v : Nat) : Int) = u := by
  have := Nat.div_add_mod u v
  rw [Nat.mul_comm] at this
  exact_mod_cast this

/-- the quotient and the remainder of integers by those of their magnitudes: no rest, or not negative. -/
theorem divmod_plain {x y : Int} (hy : y ≠ 0) (h : ¬ x < 0 ∨ x.natAbs % y.natAbs = 0) :
    (if (!(decide (x < 0) == decide (y < 0))) then -((x.natAbs / y.natAbs : Nat) : Int) else ((x.natAbs / y.natAbs : Nat) : Int)) = x / y ∧ ((x.natAbs % y.natAbs : Nat) : Int) = x % y := by
  have hm : x.natAbs % y.natAbs < y.natAbs := Nat.mod_lt _ (by omega)
  have hd := nat_div_int x.natAbs y.natAbs
  obtain ⟨q, hq⟩ : ∃ q : Nat, x.natAbs / y.natAbs = q := ⟨_, rfl⟩
  obtain ⟨r, hr⟩ : ∃ r : Nat, x.natAbs % y.natAbs = r := ⟨_, rfl⟩
  rw [hq, hr] at hd
  rw [hr] at hm h
  rw [hq, hr]
  have key : ∀ b : Int, 0 < b → (b.natAbs = y.natAbs) → ((if x < 0 then -(q : Int) else (q : Int)) = x / b ∧ (r : Int) = x % b) := by
    intro b hb hby
    have hby' : (y.natAbs : Int) = b := by omega
    rw [hby'] at hd
    have := divmod_pos (x := x) (b := b) (q := if x < 0 then -(q : Int) else (q : Int)) (r := (r : Int)) hb (by
      by_cases hx : x < 0
      · have h0 : (r : Int) = 0 := by omega
        rw [if_pos hx, Int.mul_neg, Int.mul_comm b, h0]
        rw [h0] at hd
        omega
      · rw [if_neg hx, Int.mul_comm b]; omega) (by omega) (by omega)
    exact ⟨this.1.symm, this.2.symm⟩
  by_cases hyn : y < 0
  · have := key (-y) (by omega) (by omega)
    rw [Int.ediv_neg, Int.emod_neg] at this
    refine ⟨?_, this.2⟩
    by_cases hx : x < 0
    · simp [hx, hyn] at this ⊢; omega
    · simp [hx, hyn] at this ⊢; omega
  · have := key y (by omega) rfl
    refine ⟨?_, this.2⟩
    by_cases hx : x < 0
    · simp [hx, hyn] at this ⊢; omega
    · simp [hx, hyn] at this ⊢; omega

/-- negative, with a rest. -/
theorem divmod_neg {x y : Int} (hy : y ≠ 0) (hx : x < 0) (h : x.natAbs % y.natAbs ≠ 0) :
    (if (!(decide (x < 0) == decide (y < 0))) then -((x.natAbs / y.natAbs + 1 : Nat) : Int) else ((x.natAbs / y.natAbs + 1 : Nat) : Int)) = x / y ∧ ((y.natAbs - x.natAbs % y.natAbs : Nat) : Int) = x % y := by
  have hm : x.natAbs % y.natAbs < y.natAbs := Nat.mod_lt _ (by omega)
  have hd := nat_div_int x.natAbs y.natAbs
  obtain ⟨q, hq⟩ : ∃ q : Nat, x.natAbs / y.natAbs = q := ⟨_, rfl⟩
  obtain ⟨r, hr⟩ : ∃ r : Nat, x.natAbs % y.natAbs = r := ⟨_, rfl⟩
  rw [hq, hr] at hd
  rw [hr] at hm h
  rw [hq, hr]
  have key : ∀ b : Int, 0 < b → (b.natAbs = y.natAbs) → (-((q + 1 : Nat) : Int) = x / b ∧ ((y.natAbs - r : Nat) : Int) = x % b) := by
    intro b hb hby
    have hby' : (y.natAbs : Int) = b := by omega
    rw [hby'] at hd
    have := divmod_pos (x := x) (b := b) (q := -((q + 1 : Nat) : Int)) (r := ((y.natAbs - r : Nat) : Int)) hb (by
      rw [Int.mul_neg, Int.mul_comm b, Int.natCast_add, Int.add_mul]
      omega) (by omega) (by omega)
    exact ⟨this.1.symm, this.2.symm⟩
  by_cases hyn : y < 0
  · have := key (-y) (by omega) (by omega)
    rw [Int.ediv_neg, Int.emod_neg] at this
    refine ⟨?_, this.2⟩
    simp [hx, hyn] at this ⊢; omega
  · have := key y (by omega) rfl
    refine ⟨?_, this.2⟩
    simp [hx, hyn] at this ⊢; omega


theorem pcs_one_one : pcs 1000000000 1 = [1] := by
  rw [pcs_one (by decide), show [1] = ([] : List Nat) ++ [1] from rfl, trimL_snoc_pos _ (by omega)]
theorem pcs_len_mono {a b N : Nat} (hab : a ≤ b) (hb : (pcs 1000000000 b).length ≤ N) : (pcs 1000000000 a).length ≤ N := by
  apply pcs_len_le_of_lt (by decide)
  exact Nat.lt_of_le_of_lt hab (pcs_lt_pow hb)

set_option maxHeartbeats 4000000 in
theorem divmod_any (x y : Int) (hy : y ≠ 0) (w : World) (hW : Wd w) (hxm : (Lib.itoa x).length ≤ 2147483647) (hym : (Lib.itoa y).length ≤ 2147483647) :
    Calls Tryz.prog 86 #[.string (txt x), .string (txt y)] w fun e w' => e = .returned (.tuple #[.string (txt (x / y)), .string (txt (x % y)), .int .i64 0]) ∧ Below w.heap.size w w' := by
  have hx4 : (Lib.itoa x).length ≤ 4294967296 := by omega
  have hy4 : (Lib.itoa y).length ≤ 4294967296 := by omega
  have px := pcs_itoa x
  have py := pcs_itoa y
  have hyz := txt_ne_zero hy
  have hc2 := open_any x w hx4
  go_enter Tryz.func86, Tryz.ntmps86
  go_wp2_with (first
      | (with_reducible refine Calls.mono hc2 ?_; rintro e w2 ⟨⟨A1, n1, c1, rfl, hU1⟩, hb2⟩; have hc3 := open_any y w2 hy4)
      | (with_reducible refine Calls.mono hc3 ?_; rintro e w3 ⟨⟨A2, n2, c2, rfl, hU2⟩, hb3⟩))
  obtain ⟨O1, hO1⟩ : ∃ O1, Obj.cells #[Value.bool (decide (x < 0)), Value.slice A1 n1 c1] 111 = O1 := ⟨_, rfl⟩
  obtain ⟨O2, hO2⟩ : ∃ O2, Obj.cells #[Value.bool (decide (y < 0)), Value.slice A2 n2 c2] 111 = O2 := ⟨_, rfl⟩
  rw [hO1, hO2]
  have hb13 : Below w.heap.size w w3 := hb2.trans (hb3.mono hb2.size)
  have hU1' := (hU1.to hb3 (Nat.le_refl _))
  have hal : Below w3.heap.size w3 ((w3.alloc O1).alloc O2) := ((Below.refl _ w3).alloc (Nat.le_refl _) O1).alloc (by simp) O2
  have hV1 := hU1'.to hal (Nat.le_refl _)
  have hV2 := hU2.to hal (Nat.le_refl _)
  have hB4 := hb13.trans (hal.mono hb13.size)
  have k1 : ((w3.alloc O1).alloc O2).heap[w3.heap.size]? = some O1 := (Below.heap_alloc _ _ _ (by simp)).trans (heap_alloc_new w3 _)
  have k2 : ((w3.alloc O1).alloc O2).heap[w3.heap.size + 1]? = some O2 := by
    have := heap_alloc_new (w3.alloc O1) O2
    rwa [World.size_alloc] at this
  obtain ⟨W4, hW4⟩ : ∃ W4, (w3.alloc O1).alloc O2 = W4 := ⟨_, rfl⟩
  rw [hW4] at hal hV1 hV2 hB4 k1 k2 ⊢
  clear hW4
  subst hO1 hO2
  have hn1 := len_le hV1 (Nat.le_trans px hxm)
  have hn2 := len_le hV2 (Nat.le_trans py hym)
  have hl1 := lt_of_block' k1
  have hl2 := lt_of_block' k2
  have hdv := div_any A1 A2 n1 n2 c1 c2 x.natAbs y.natAbs (by omega) W4 hV1 hV2 (by omega) (by omega)
  with_reducible refine Calls.mono hdv ?_
  rintro e w5 ⟨⟨A3, n3, c3, A4, n4, c4, rfl, hQ, hR⟩, hb5⟩
  have m1 := (hb5.block _ hl1).trans k1
  have m2 := (hb5.block _ hl2).trans k2
  have e0 := cell2 m1
  have e1 := e0.1
  have e2 := e0.2
  have e3 := cell2 m2
  have e4 := e3.1
  have e5 := e3.2
  have hB5 := hB4.trans (hb5.mono hB4.size)
  have hUy5 := hV2.to hb5 (Nat.le_refl _)
  have hz4 : x.natAbs % y.natAbs = 0 ↔ n4 = 0 := by rw [← hR.len, List.length_eq_zero_iff, pcs_nil_iff (by decide)]
  have hn3 : n3 ≤ 2147483647 := len_le hQ (pcs_len_mono (Nat.div_le_self _ _) (Nat.le_trans px hxm))
  have hn4b : n4 ≤ 4294967296 := Nat.le_trans (len_le hR (pcs_len_mono (Nat.mod_le _ _) (Nat.le_trans px hxm))) (Nat.le_of_ble_eq_true rfl)
  have hn3b : n3 ≤ 4294967296 := Nat.le_trans hn3 (Nat.le_of_ble_eq_true rfl)
  by_cases hcase : ¬ x < 0 ∨ n4 = 0
  · obtain ⟨hp1, hp2⟩ := divmod_plain (x := x) (y := y) hy (by omega)
    have hp2' : (if false then -((x.natAbs % y.natAbs : Nat) : Int) else ((x.natAbs % y.natAbs : Nat) : Int)) = x % y := hp2
    by_cases hx : x < 0
    · have hn4 : n4 = 0 := by omega
      have hp1' : (if (!decide (y < 0)) then -((x.natAbs / y.natAbs : Nat) : Int) else ((x.natAbs / y.natAbs : Nat) : Int)) = x / y := by
        rw [← hp1]; simp [hx]
      have hcl1 := close_as (!decide (y < 0)) A3 n3 c3 _ _ hp1' w5 (hW.below hB5) hQ hn3b
      subst hn4
      go_wp2_with (first
        | (with_reducible refine Calls.mono hcl1 ?_; rintro e w6 ⟨rfl, hb6⟩; have hB6 := hB5.trans (hb6.mono hB5.size); have hR6 := hR.to hb6 (Nat.le_refl _); have hcl2 := close_as false _ _ _ _ _ hp2' w6 (hW.below hB6) hR6 hn4b)
        | (with_reducible refine Calls.mono hcl2 ?_; rintro e w7 ⟨rfl, hb7⟩))
      all_goals go_ret3
      all_goals exact ⟨rfl, hB6.trans (hb7.mono hB6.size)⟩
    · have hp1' : (if (decide (y < 0)) then -((x.natAbs / y.natAbs : Nat) : Int) else ((x.natAbs / y.natAbs : Nat) : Int)) = x / y := by
        rw [← hp1]; simp [hx]
      have hcl1 := close_as (decide (y < 0)) A3 n3 c3 _ _ hp1' w5 (hW.below hB5) hQ hn3b
      go_wp2_with (first
        | (with_reducible refine Calls.mono hcl1 ?_; rintro e w6 ⟨rfl, hb6⟩; have hB6 := hB5.trans (hb6.mono hB5.size); have hR6 := hR.to hb6 (Nat.le_refl _); have hcl2 := close_as false _ _ _ _ _ hp2' w6 (hW.below hB6) hR6 hn4b)
        | (with_reducible refine Calls.mono hcl2 ?_; rintro e w7 ⟨rfl, hb7⟩))
      all_goals go_ret3
      all_goals exact ⟨rfl, hB6.trans (hb7.mono hB6.size)⟩
  · obtain ⟨hp1, hp2⟩ := divmod_neg (x := x) (y := y) hy (by omega) (by omega)
    have hx : x < 0 := by omega
    have hn4 : 0 < n4 := by omega
    go_wp2_with fail
    have d1 : w5.drew.cell? ⟨w3.heap.size + 1, 1, none⟩ = some (.slice A2 n2 c2) := e5
    obtain ⟨W6, hW6⟩ : ∃ W6, (w5.alloc (.cells #[.int .u64 1] 145)).drew = W6 := ⟨_, rfl⟩
    have hba : Below w5.heap.size w5 W6 := hW6 ▸ ((Below.refl _ w5).alloc (Nat.le_refl _) (.cells #[.int .u64 1] 145)).drew
    have hone : IsU .u64 W6 W6.heap.size (some ⟨w5.heap.size, 0, none⟩) 1 1 (pcs 1000000000 1) := by
      subst hW6
      rw [pcs_one_one]
      exact IsU.of_block (xs := [1]) (heap_alloc_new w5 _) rfl
    have q2 := (hba.block _ (lt_of_block' m2)).trans m2
    have q1 := (hba.block _ (lt_of_block' m1)).trans m1
    have d2 : W6.cell? ⟨w3.heap.size + 1, 1, none⟩ = some (.slice A2 n2 c2) := (cell2 q2).2
    have hQ6 := hQ.to hba (Nat.le_refl _)
    have hR6 := hR.to hba (Nat.le_refl _)
    have hY6 := hUy5.to hba (Nat.le_refl _)
    have hB6 := hB5.trans (hba.mono hB5.size)
    have hcp := plus_any A3 (some ⟨w5.heap.size, 0, none⟩) n3 1 c3 1 (x.natAbs / y.natAbs) 1 W6 hQ6 hone hn3b (by decide)
    have hn2b : n2 ≤ 4294967296 := by omega
    have hle : x.natAbs % y.natAbs ≤ y.natAbs := Nat.le_of_lt (Nat.mod_lt _ (by omega))
    have hq1len : (pcs 1000000000 (x.natAbs / y.natAbs + 1)).length ≤ 2147483647 + 1 := pcs_add_len (pcs_len_mono (Nat.div_le_self _ _) (Nat.le_trans px hxm)) (by rw [pcs_one_one]; decide)
    have hdlen : (pcs 1000000000 (y.natAbs - x.natAbs % y.natAbs)).length ≤ 2147483647 := pcs_sub_len (Nat.le_trans py hym)
    have hp1' : (if (!(true == decide (y < 0))) then -((x.natAbs / y.natAbs + 1 : Nat) : Int) else ((x.natAbs / y.natAbs + 1 : Nat) : Int)) = x / y := by
      rw [← hp1]; simp [hx]
    have hp2' : (if false then -((y.natAbs - x.natAbs % y.natAbs : Nat) : Int) else ((y.natAbs - x.natAbs % y.natAbs : Nat) : Int)) = x % y := hp2
    go_region_held3 (fun w' : World => w'.cell? ⟨w3.heap.size + 1, 1, none⟩ = some (.slice A2 n2 c2)) (first | assumption) (first
        | (with_reducible refine Calls.mono hcp ?_; rintro e w7 ⟨⟨A7, n7, c7, rfl, hU7⟩, hb7⟩; have p1 := (hb7.block _ (lt_of_block' q1)).trans q1; have p2 := (hb7.block _ (lt_of_block' q2)).trans q2; have d3 := (cell2 p2).2; have hB7 := hB6.trans (hb7.mono hB6.size); have hcm := minus_any A2 A4 n2 n4 c2 c4 _ _ w7 (hY6.to hb7 (Nat.le_refl _)) (hR6.to hb7 (Nat.le_refl _)) hn2b hn4b hle)
        | (with_reducible refine Calls.mono hcm ?_; rintro e w8 ⟨⟨A8, n8, c8, rfl, hU8, hf8⟩, hb8⟩; have t1 := (hb8.block _ (lt_of_block' p1)).trans p1; have t2 := (hb8.block _ (lt_of_block' p2)).trans p2; have d4 := (cell2 t2).2; have d5 := (cell2 t2).1; have d6 := (cell2 t1).1; have hB8 := hB7.trans (hb8.mono hB7.size); have hU7' := hU7.to hb8 (Nat.le_refl _)))
    have hn7 : n7 ≤ 4294967296 := Nat.le_trans (len_le hU7 hq1len) (Nat.le_of_ble_eq_true rfl)
    have hn8 : n8 ≤ 4294967296 := Nat.le_trans (len_le hU8 hdlen) (Nat.le_of_ble_eq_true rfl)
    have hp1'' : (if (!decide (y < 0)) then -((x.natAbs / y.natAbs + 1 : Nat) : Int) else ((x.natAbs / y.natAbs + 1 : Nat) : Int)) = x / y := by
      rw [← hp1']; simp
    have hcl1 := close_as (!decide (y < 0)) A7 n7 c7 _ _ hp1'' w8 (hW.below hB8) hU7' hn7
    go_wp2_with (first
        | (with_reducible refine Calls.mono hcl1 ?_; rintro e w9 ⟨rfl, hb9⟩; have hB9 := hB8.trans (hb9.mono hB8.size); have hR9 := hU8.to hb9 (Nat.le_refl _); have hcl2 := close_as false _ _ _ _ _ hp2' w9 (hW.below hB9) hR9 hn8)
        | (with_reducible refine Calls.mono hcl2 ?_; rintro e w10 ⟨rfl, hb10⟩))
    all_goals go_ret3
    all_goals exact ⟨rfl, hB9.trans (hb10.mono hB9.size)⟩

/-- division by zero. -/
theorem divmod_zero (x : Int) (w : World) :
    Calls Tryz.prog 86 #[.string (txt x), .string (txt 0)] w fun e w' => e = .returned (.tuple #[.string ByteArray.empty, .string ByteArray.empty, .int .i64 17]) ∧ w' = w := by
  rw [txt_zero]
  go_enter Tryz.func86, Tryz.ntmps86
  go_wp2
  go_ret3
  exact ⟨rfl, rfl⟩
end Go.Proofs.YtgfgpepdkffhbaaGreatDoor.Kl
namespace Go.Proofs.YtgfgpepdkffhbaaGreatDoor.Kl
open Go.RowKit Go.Shelf
set_option linter.unusedVariables false
set_option linter.unusedSimpArgs false

/-- what a slice of pieces is worth in a world: the measure of a loop over magnitudes. -/
def worth (w : World) (v : Value) : Nat := match v with
  | .slice (some ad) n _ => val 1000000000 ((List.range n).map fun j => match w.cell? (ad.add j) with | some (.int _ x) => x.toNat | _ => 0)
  | _ => 0

theorem worth_eq {k : IntKind} {w : World} {B n c x : Nat} {A : Option Addr} (h : IsU k w B A n c (pcs 1000000000 x)) : worth w (.slice A n c) = x := by
  have hv := val_pcs (B := 1000000000) (by decide) x
  have hlen := h.len
  cases A with
  | none =>
    have : n = 0 := by
      rcases Nat.eq_zero_or_pos n with h0 | h0
      · exact h0
      · obtain ⟨ad, _, e, _⟩ := h.at_ h0; cases e
    subst this
    have h0 := List.eq_nil_of_length_eq_zero hlen
    rw [h0] at hv
    simpa [worth, val] using hv
  | some ad =>
    unfold worth
    have e : ((List.range n).map fun j => match w.cell? (ad.add j) with | some (.int _ x) => x.toNat | _ => 0) = pcs 1000000000 x := by
      apply List.ext_getElem?
      intro j
      by_cases hj : j < n
      · obtain ⟨ad', u, e, _, hx, hc⟩ := h.at_ hj
        cases e
        rw [List.getElem?_map, List.getElem?_range hj, hx]
        simp [hc]
      · rw [List.getElem?_eq_none (by simp; omega), List.getElem?_eq_none (by omega)]
    exact (congrArg (val 1000000000) e).trans hv

theorem gcd_step {a b : Int} {g : Nat} (h : Nat.gcd a.natAbs b.natAbs = g) : Nat.gcd b.natAbs (a.tmod b).natAbs = g := by
  rw [Int.natAbs_tmod, ← h, Nat.gcd_comm b.natAbs, ← Nat.gcd_rec, Nat.gcd_comm]

theorem gcd_small (x y : Int) (w : World) (hW : Wd w) (hx : (Lib.itoa x).length ≤ 18) (hy : (Lib.itoa y).length ≤ 18) :
    Calls Tryz.prog 65 #[.string (txt x), .string (txt y)] w fun e w' => e = .returned (.string (txt ((Nat.gcd x.natAbs y.natAbs : Nat) : Int))) ∧ Below w.heap.size w w' := by
  have hc1 := quick_yes x 18 (by decide) hx w
  have b1 : x.natAbs < 1000000000000000000 := itoa_small hx
  have b2 : y.natAbs < 1000000000000000000 := itoa_small hy
  obtain ⟨g, hg⟩ : ∃ g, Nat.gcd x.natAbs y.natAbs = g := ⟨_, rfl⟩
  rw [hg]
  go_enter Tryz.func65, Tryz.ntmps65
  go_wp2_with (first
    | (with_reducible refine Calls.mono hc1 ?_; rintro e w1 ⟨rfl, hb1⟩; have hc2 := quick_yes y 18 (Nat.le_refl _) hy w1)
    | (with_reducible refine Calls.mono hc2 ?_; rintro e w2 ⟨rfl, hb2⟩; have hb12 := hb1.trans (hb2.mono hb1.size)))
  have HG := Lib.hid hg; clear hg
  go_loopw [5, 7] (fun v u wr => ∃ a b : Int, v = .int .i64 a ∧ u = .int .i64 b ∧ a.natAbs < 1000000000000000000 ∧ b.natAbs < 1000000000000000000 ∧ RowKit.Hid (Nat.gcd a.natAbs b.natAbs = g) ∧ Below w.heap.size w wr) (fun _ u _ => (intOf u).natAbs)
  case atStart => exact ⟨x, y, rfl, rfl, b1, b2, HG, hb12⟩
  case round =>
    obtain ⟨a, b, rfl, rfl, ha, hb, hgcd, hbel⟩ := hrel
    by_cases hb0 : b = 0
    · subst hb0
      have hv : max a (-a) = (g : Int) := by
        have := hgcd.out
        simp at this
        omega
      have HV := Lib.hid hv; clear hv
      have hc3 := of_any (g : Int) (by omega) (by have := HV.out; omega) wr (hW.below hbel)
      go_wp2_with fail
      rw [HV.out]
      with_reducible refine Calls.mono hc3 ?_
      rintro e w3 ⟨rfl, hb3⟩
      go_wp2_with fail
      go_ret
      exact ⟨rfl, hbel.trans (hb3.mono hbel.size)⟩
    · have hne : ((b : Int) != 0) = true := by simpa using hb0
      go_wp2_with fail
      have hst := gcd_step hgcd.out
      have HST := Lib.hid hst; clear hst
      have hr1 : (a.tmod b).natAbs < b.natAbs := by
        rw [Int.natAbs_tmod]; exact Nat.mod_lt _ (by omega)
      have HR1 := Lib.hid hr1; clear hr1
      go_region
      go_wp2_with fail
      refine ⟨⟨b, a.tmod b, rfl, rfl, hb, Nat.lt_trans HR1.out hb, HST, hbel.drew⟩, by simpa [intOf] using HR1.out⟩

/-- the pieces of a number as a value. -/
theorem field_p (b : Bool) (A : Option Addr) (n c : Nat) (w : World) : (Instr.field 111 (.agg #[.bool b, .slice A n c]) 1).run Tryz.prog w = .ok (.slice A n c) w := by kernel_rfl

set_option maxRecDepth 100000 in
set_option maxHeartbeats 4000000 in
theorem gcd_big (x y : Int) (w : World) (hW : Wd w) (hbig : 18 < (Lib.itoa x).length ∨ 18 < (Lib.itoa y).length) (hxm : (Lib.itoa x).length ≤ 2147483647) (hym : (Lib.itoa y).length ≤ 2147483647) :
    Calls Tryz.prog 65 #[.string (txt x), .string (txt y)] w fun e w' => e = .returned (.string (txt ((Nat.gcd x.natAbs y.natAbs : Nat) : Int))) ∧ Below w.heap.size w w' := by
  have hx4 : (Lib.itoa x).length ≤ 4294967296 := by omega
  have hy4 : (Lib.itoa y).length ≤ 4294967296 := by omega
  replace hxm : (Lib.itoa x).length ≤ 2147483648 := by omega
  replace hym : (Lib.itoa y).length ≤ 2147483648 := by omega
  have hfp := field_p (decide (x < 0))
  have hfq := field_p (decide (y < 0))
  have px := pcs_itoa x
  have py := pcs_itoa y
  obtain ⟨g, hg⟩ : ∃ g, Nat.gcd x.natAbs y.natAbs = g := ⟨_, rfl⟩
  rw [hg]
  have HG := Lib.hid hg; clear hg
  rcases Nat.lt_or_ge 18 (Lib.itoa x).length with hx | hx
  rotate_left
  · have hy : 18 < (Lib.itoa y).length := by omega
    have hcA := quick_yes x 18 (by decide) hx w
    go_enter Tryz.func65, Tryz.ntmps65
    go_wp2_with (first
      | (with_reducible refine Calls.mono hcA ?_; rintro e w0 ⟨rfl, hb0⟩; have hcB := quick_no y 18 (by decide) hy w0)
      | (with_reducible refine Calls.mono hcB ?_; rintro e w1 ⟨rfl, hb1'⟩; have hb1 := hb0.trans (hb1'.mono hb0.size); have hc2 := open_any x w1 hx4)
      | (with_reducible refine Calls.mono hc2 ?_; rintro e w2 ⟨⟨A1, n1, c1, rfl, hU1⟩, hb2⟩; have hc3 := open_any y w2 hy4)
      | (with_reducible refine Calls.mono hc3 ?_; rintro e w3 ⟨⟨A2, n2, c2, rfl, hU2⟩, hb3⟩; have hb13 : Below w.heap.size w w3 := hb1.trans ((hb2.mono hb1.size).trans (hb3.mono (Nat.le_trans hb1.size hb2.size))); have hU1' := (hU1.to hb3 (Nat.le_refl _))))
    go_loopw [9, 10] (fun v u wr => ∃ (a b : Nat) (A : Option Addr) (n c : Nat) (A' : Option Addr) (n' c' : Nat), v = .slice A n c ∧ u = .slice A' n' c' ∧ IsU .u64 wr wr.heap.size A n c (pcs 1000000000 a) ∧ IsU .u64 wr wr.heap.size A' n' c' (pcs 1000000000 b) ∧ n ≤ 2147483648 ∧ n' ≤ 2147483648 ∧ RowKit.Hid (Nat.gcd a b = g) ∧ Below w.heap.size w wr) (fun _ u wr => worth wr u)
    case atStart => exact ⟨x.natAbs, y.natAbs, _, _, _, _, _, _, rfl, rfl, hU1', hU2, len_le hU1' (Nat.le_trans px hxm), len_le hU2 (Nat.le_trans py hym), HG, hb13⟩
    case round =>
      obtain ⟨a, b, A, n, c, A', n', c', rfl, rfl, hUa, hUb, hna, hnb, hgcd, hbel⟩ := hrel
      have hz : b = 0 ↔ n' = 0 := by rw [← hUb.len, List.length_eq_zero_iff, pcs_nil_iff (by decide)]
      by_cases hb0 : b = 0
      · have hn0 := hz.1 hb0
        have hga : a = g := by
          have := hgcd.out
          rw [hb0] at this
          simpa using this
        have HGA := Lib.hid hga; clear hga
        have hcl := close_as false A n c a (g : Int) (congrArg (fun t : Nat => (t : Int)) HGA.out) wr (hW.below hbel) hUa (by omega)
        clear hz
        subst hn0
        go_wp2_with (with_reducible refine Calls.mono hcl ?_; rintro e w4 ⟨rfl, hb4⟩)
        all_goals go_ret
        all_goals exact ⟨rfl, hbel.trans (hb4.mono hbel.size)⟩
      · have hn0 : 0 < n' := by omega
        have hdv := div_any A A' n n' c c' a b (by omega) wr hUa hUb hna hnb
        have hwb := worth_eq hUb
        have HWB := Lib.hid hwb; clear hwb
        have hst : Nat.gcd b (a % b) = g := by rw [Nat.gcd_comm, ← Nat.gcd_rec, Nat.gcd_comm]; exact hgcd.out
        have HST := Lib.hid hst; clear hst
        have hlt : a % b < b := Nat.mod_lt _ (by omega)
        have HLT := Lib.hid hlt; clear hlt
        have hl : (pcs 1000000000 (a % b)).length ≤ 2147483648 := pcs_len_mono (Nat.le_of_lt HLT.out) (by rw [hUb.len]; exact hnb)
        have HL := Lib.hid hl; clear hl
        go_wp2_with fail
        with_reducible refine Calls.mono hdv ?_
        rintro e w4 ⟨⟨A3, n3, c3, A4, n4, c4, rfl, hQ, hR⟩, hb4⟩
        have hn4 : n4 ≤ 2147483648 := len_le hR HL.out
        have hUb4 := hUb.to hb4 (Nat.le_refl _)
        have hB4 := hbel.trans (hb4.mono hbel.size)
        have hw4 := worth_eq hR
        go_wp2_with fail
        exact ⟨⟨b, a % b, A', n', c', A4, n4, c4, rfl, rfl, hUb4, hR, hnb, hn4, HST, hB4⟩, by rw [hw4, HWB.out]; exact HLT.out⟩
  · have hcA := quick_no x 18 (by decide) hx w
    go_enter Tryz.func65, Tryz.ntmps65
    go_wp2_with (first
      | (with_reducible refine Calls.mono hcA ?_; rintro e w1 ⟨rfl, hb1⟩; have hc2 := open_any x w1 hx4)
      | (with_reducible refine Calls.mono hc2 ?_; rintro e w2 ⟨⟨A1, n1, c1, rfl, hU1⟩, hb2⟩; have hc3 := open_any y w2 hy4)
      | (with_reducible refine Calls.mono hc3 ?_; rintro e w3 ⟨⟨A2, n2, c2, rfl, hU2⟩, hb3⟩; have hb13 : Below w.heap.size w w3 := hb1.trans ((hb2.mono hb1.size).trans (hb3.mono (Nat.le_trans hb1.size hb2.size))); have hU1' := (hU1.to hb3 (Nat.le_refl _))))
    go_loopw [9, 10] (fun v u wr => ∃ (a b : Nat) (A : Option Addr) (n c : Nat) (A' : Option Addr) (n' c' : Nat), v = .slice A n c ∧ u = .slice A' n' c' ∧ IsU .u64 wr wr.heap.size A n c (pcs 1000000000 a) ∧ IsU .u64 wr wr.heap.size A' n' c' (pcs 1000000000 b) ∧ n ≤ 2147483648 ∧ n' ≤ 2147483648 ∧ RowKit.Hid (Nat.gcd a b = g) ∧ Below w.heap.size w wr) (fun _ u wr => worth wr u)
    case atStart => exact ⟨x.natAbs, y.natAbs, _, _, _, _, _, _, rfl, rfl, hU1', hU2, len_le hU1' (Nat.le_trans px hxm), len_le hU2 (Nat.le_trans py hym), HG, hb13⟩
    case round =>
      obtain ⟨a, b, A, n, c, A', n', c', rfl, rfl, hUa, hUb, hna, hnb, hgcd, hbel⟩ := hrel
      have hz : b = 0 ↔ n' = 0 := by rw [← hUb.len, List.length_eq_zero_iff, pcs_nil_iff (by decide)]
      by_cases hb0 : b = 0
      · have hn0 := hz.1 hb0
        have hga : a = g := by
          have := hgcd.out
          rw [hb0] at this
          simpa using this
        have HGA := Lib.hid hga; clear hga
        have hcl := close_as false A n c a (g : Int) (congrArg (fun t : Nat => (t : Int)) HGA.out) wr (hW.below hbel) hUa (by omega)
        clear hz
        subst hn0
        go_wp2_with (with_reducible refine Calls.mono hcl ?_; rintro e w4 ⟨rfl, hb4⟩)
        all_goals go_ret
        all_goals exact ⟨rfl, hbel.trans (hb4.mono hbel.size)⟩
      · have hn0 : 0 < n' := by omega
        have hdv := div_any A A' n n' c c' a b (by omega) wr hUa hUb hna hnb
        have hwb := worth_eq hUb
        have HWB := Lib.hid hwb; clear hwb
        have hst : Nat.gcd b (a % b) = g := by rw [Nat.gcd_comm, ← Nat.gcd_rec, Nat.gcd_comm]; exact hgcd.out
        have HST := Lib.hid hst; clear hst
        have hlt : a % b < b := Nat.mod_lt _ (by omega)
        have HLT := Lib.hid hlt; clear hlt
        have hl : (pcs 1000000000 (a % b)).length ≤ 2147483648 := pcs_len_mono (Nat.le_of_lt HLT.out) (by rw [hUb.len]; exact hnb)
        have HL := Lib.hid hl; clear hl
        go_wp2_with fail
        with_reducible refine Calls.mono hdv ?_
        rintro e w4 ⟨⟨A3, n3, c3, A4, n4, c4, rfl, hQ, hR⟩, hb4⟩
        have hn4 : n4 ≤ 2147483648 := len_le hR HL.out
        have hUb4 := hUb.to hb4 (Nat.le_refl _)
        have hB4 := hbel.trans (hb4.mono hbel.size)
        have hw4 := worth_eq hR
        go_wp2_with fail
        exact ⟨⟨b, a % b, A', n', c', A4, n4, c4, rfl, rfl, hUb4, hR, hnb, hn4, HST, hB4⟩, by rw [hw4, HWB.out]; exact HLT.out⟩

/-- Gcd. -/
theorem gcd_any (x y : Int) (w : World) (hW : Wd w) (hxm : (Lib.itoa x).length ≤ 2147483647) (hym : (Lib.itoa y).length ≤ 2147483647) :
    Calls Tryz.prog 65 #[.string (txt x), .string (txt y)] w fun e w' => e = .returned (.string (txt ((Nat.gcd x.natAbs y.natAbs : Nat) : Int))) ∧ Below w.heap.size w w' := by
  by_cases h : 18 < (Lib.itoa x).length ∨ 18 < (Lib.itoa y).length
  · exact gcd_big x y w hW h hxm hym
  · exact gcd_small x y w hW (by omega) (by omega)
end Go.Proofs.YtgfgpepdkffhbaaGreatDoor.Kl
namespace Go.Proofs.YtgfgpepdkffhbaaGreatDoor.Kl
open Go.RowKit Go.Shelf
set_option linter.unusedVariables false
set_option linter.unusedSimpArgs false

theorem pcs_pow_len {u L m : Nat} (h : u < 10 ^ L) : (pcs 1000000000 (u ^ m)).length ≤ L * m + 1 := by
  apply pcs_len_le_of_lt (by decide)
  calc u ^ m ≤ (10 ^ L) ^ m := Nat.pow_le_pow_left (Nat.le_of_lt h) m
    _ = 10 ^ (L * m) := (Nat.pow_mul 10 L m).symm
    _ ≤ 1000000000 ^ (L * m) := Nat.pow_le_pow_left (by decide) _
    _ < 1000000000 ^ (L * m + 1) := Nat.pow_lt_pow_right (by decide) (by omega)

theorem pow_sign (x : Int) (n : Nat) : (if (decide (x < 0) && decide (n % 2 = 1)) then -((x.natAbs ^ n : Nat) : Int) else ((x.natAbs ^ n : Nat) : Int)) = x ^ n := by
  by_cases hx : x < 0
  · have hxn : (x.natAbs : Int) = -x := by omega
    have hpow : ((x.natAbs ^ n : Nat) : Int) = (-x) ^ n := by rw [Int.natCast_pow, hxn]
    rw [hpow]
    have hpar : ∀ m : Nat, (-x) ^ m = if m % 2 = 1 then -(x ^ m) else x ^ m := by
      intro m
      induction m with
      | zero => simp
      | succ m ih =>
        rw [Int.pow_succ, ih, Int.pow_succ]
        rcases Nat.mod_two_eq_zero_or_one m with h | h
        · rw [if_neg (by omega), if_pos (by omega), Int.mul_neg]
        · rw [if_pos (by omega), if_neg (by omega), Int.neg_mul_neg]
    rw [hpar n]
    by_cases h : n % 2 = 1 <;> simp [hx, h]
  · have hxn : (x.natAbs : Int) = x := by omega
    simp [hx]
    rw [hxn]

theorem pow_next {u n i : Nat} : (n / 2 ^ i) % 2 = 1 → u ^ (n % 2 ^ i) * u ^ (2 ^ i) = u ^ (n % 2 ^ (i + 1)) := by
  intro h
  rw [← Nat.pow_add]
  congr 1
  rw [Nat.pow_succ, Nat.mod_mul, h, Nat.mul_one]
theorem pow_next0 {u n i : Nat} : (n / 2 ^ i) % 2 = 0 → u ^ (n % 2 ^ i) = u ^ (n % 2 ^ (i + 1)) := by
  intro h
  congr 1
  rw [Nat.pow_succ, Nat.mod_mul, h, Nat.mul_zero, Nat.add_zero]
theorem pow_sq {u i : Nat} : u ^ (2 ^ i) * u ^ (2 ^ i) = u ^ (2 ^ (i + 1)) := by
  rw [← Nat.pow_add, Nat.pow_succ]; congr 1; omega

set_option maxRecDepth 100000 in
set_option maxHeartbeats 4000000 in
theorem power_any (x : Int) (n : Nat) (hn : (Lib.decDigits x.natAbs).length * n ≤ 5000) (hx4 : (Lib.itoa x).length ≤ 4294967296) (w : World) (hW : Wd w) :
    Calls Tryz.prog 88 #[.string (txt x), .int .i64 (n : Int)] w fun e w' => e = .returned (.tuple #[.string (txt (x ^ n)), .int .i64 0]) ∧ Below w.heap.size w w' := by
  obtain ⟨L, hL⟩ : ∃ L, (Lib.decDigits x.natAbs).length = L := ⟨_, rfl⟩
  have hL1 : 1 ≤ L := hL ▸ List.length_pos_iff.2 (dec_ne _)
  rw [hL] at hn
  have hLlt : x.natAbs < 10 ^ L := hL ▸ dec_lt _
  have HLT := Lib.hid hLlt; clear hLlt
  have hnL : n ≤ 5000 := Nat.le_trans (Nat.le_mul_of_pos_left n hL1) hn
  have hL5 : L ≤ 5000 ∨ n = 0 := by
    rcases Nat.eq_zero_or_pos n with h | h
    · exact Or.inr h
    · exact Or.inl (Nat.le_trans (Nat.le_mul_of_pos_right L h) hn)
  have hq : ¬ ((5000 : Int) / (L : Int) < (n : Int)) := by
    have := (Nat.le_div_iff_mul_le (by omega : 0 < L)).2 (by rw [Nat.mul_comm]; exact hn)
    have h2 : ((5000 / L : Nat) : Int) = (5000 : Int) / (L : Int) := by simp
    omega
  have hsz : (txt (x.natAbs : Int)).size = L := by rw [← hL, ← itoa_nat]; simp [txt, ByteArray.size]
  have hlen : (Lib.itoa (x.natAbs : Int)).length = L := by rw [itoa_nat]; exact hL
  have hca := abs_any x w
  go_enter Tryz.func88, Tryz.ntmps88
  go_wp2_with (with_reducible refine Calls.mono hca ?_; rintro e w1 ⟨rfl, rfl⟩)
  have ho := open_any x (w1.alloc (Obj.cells #[Value.int IntKind.u64 1] 145)) hx4
  have hUo : IsU .u64 (w1.alloc (.cells #[.int .u64 1] 145)) (w1.alloc (.cells #[.int .u64 1] 145)).heap.size (some ⟨w1.heap.size, 0, none⟩) 1 1 (pcs 1000000000 1) := by
    rw [pcs_one_one]
    exact IsU.of_block (xs := [1]) (heap_alloc_new w1 _) rfl
  have hba : Below w1.heap.size w1 (w1.alloc (.cells #[.int .u64 1] 145)) := (Below.refl _ w1).alloc (Nat.le_refl _) _
  with_reducible refine Calls.mono ho ?_
  rintro e w2 ⟨⟨A1, n1, c1, rfl, hU1⟩, hb2⟩
  have hO2 := hUo.to hb2 (Nat.le_refl _)
  have hB2 := hba.trans (hb2.mono hba.size)
  clear ho hUo hb2 hba
  obtain ⟨O1, hO1⟩ : ∃ O1, Obj.cells #[Value.bool (decide (x < 0)), Value.slice A1 n1 c1] 111 = O1 := ⟨_, rfl⟩
  go_wp2_with fail
  have hal : Below w2.heap.size w2 (w2.alloc O1) := (Below.refl _ w2).alloc (Nat.le_refl _) O1
  have hV1 := hU1.to hal (Nat.le_refl _)
  have hVo := hO2.to hal (Nat.le_refl _)
  have hB3 := hB2.trans (hal.mono hB2.size)
  have k1 := heap_alloc_new w2 O1
  obtain ⟨W3, hW3⟩ : ∃ W3, w2.alloc O1 = W3 := ⟨_, rfl⟩
  rw [hW3] at hV1 hVo hB3 k1 hal ⊢
  clear hW3 hU1 hO2 hB2
  subst hO1
  have hl1 := lt_of_block' k1
  obtain ⟨c0, c1'⟩ := cell2 k1
  go_region
  go_wp2_with fail
  have HP := Lib.hid (pow_sign x n)
  have z1 : x.natAbs ^ (n % 2 ^ 0) = 1 := by simp [Nat.mod_one]
  have z2 : x.natAbs ^ (2 ^ 0) = x.natAbs := by simp
  go_loopw [6, 8, 9] (fun rv kv bv wr => ∃ (i : Nat) (A : Option Addr) (m c : Nat) (A' : Option Addr) (m' c' : Nat), rv = .slice A m c ∧ kv = .int .i64 ((n / 2 ^ i : Nat) : Int) ∧ bv = .slice A' m' c' ∧ IsU .u64 wr wr.heap.size A m c (pcs 1000000000 (x.natAbs ^ (n % 2 ^ i))) ∧ IsU .u64 wr wr.heap.size A' m' c' (pcs 1000000000 (x.natAbs ^ (2 ^ i))) ∧ wr.heap[w2.heap.size]? = some (.cells #[.bool (decide (x < 0)), .slice A1 n1 c1] 111 (0, 0)) ∧ Below w1.heap.size w1 wr) (fun _ kv _ _ => (intOf kv).toNat)
  case atStart => exact ⟨0, _, _, _, _, _, _, rfl, by simp, rfl, by rw [z1]; exact hVo, by rw [z2]; exact hV1, k1, hB3.drew⟩
  case round =>
    obtain ⟨i, A, m, c, A', m', c', rfl, rfl, rfl, hUr, hUb, hk, hbel⟩ := hrel
    obtain ⟨q, hq'⟩ : ∃ q, n / 2 ^ i = q := ⟨_, rfl⟩
    have hmr : m ≤ 4294967296 := by
      have h1 := pcs_pow_len (m := n % 2 ^ i) HLT.out
      have h2 : L * (n % 2 ^ i) ≤ L * n := Nat.mul_le_mul_left _ (Nat.mod_le _ _)
      have h3 := len_le hUr h1
      omega
    rw [hq']
    by_cases hq0 : q = 0
    · have hfin : n % 2 ^ i = n := by
        rcases Nat.div_eq_zero_iff.1 (hq'.trans hq0) with h | h
        · have := Nat.pow_pos (a := 2) (n := i) (by decide); omega
        · exact Nat.mod_eq_of_lt h
      rw [hfin] at hUr
      have c0 := (cell2 hk).1
      clear hq'
      subst hq0
      have hm4 : m ≤ 4294967296 := hmr
      by_cases hx : x < 0
      · have hd : decide (x < 0) = true := decide_eq_true hx
        rcases Nat.mod_two_eq_zero_or_one n with hodd | hodd
        · have hne : (n : Int).tmod 2 = 0 := by rw [Int.tmod_eq_emod_of_nonneg (by omega)]; omega
          have hz : (if false then -((x.natAbs ^ n : Nat) : Int) else ((x.natAbs ^ n : Nat) : Int)) = x ^ n := by rw [← HP.out]; simp [hodd]
          have hcl := close_as false A m c _ _ hz wr (hW.below hbel) hUr hm4
          clear hz hodd
          go_wp2_with (with_reducible refine Calls.mono hcl ?_; rintro e w4 ⟨rfl, hb4⟩)
          go_ret2
          exact ⟨rfl, hbel.trans (hb4.mono hbel.size)⟩
        · have hne : (n : Int).tmod 2 = 1 := by rw [Int.tmod_eq_emod_of_nonneg (by omega)]; omega
          have hz : (if true then -((x.natAbs ^ n : Nat) : Int) else ((x.natAbs ^ n : Nat) : Int)) = x ^ n := by rw [← HP.out]; simp [hodd, hx]
          have hcl := close_as true A m c _ _ hz wr (hW.below hbel) hUr hm4
          clear hz hodd
          go_wp2_with (with_reducible refine Calls.mono hcl ?_; rintro e w4 ⟨rfl, hb4⟩)
          go_ret2
          exact ⟨rfl, hbel.trans (hb4.mono hbel.size)⟩
      · have hd : decide (x < 0) = false := decide_eq_false hx
        have hz : (if false then -((x.natAbs ^ n : Nat) : Int) else ((x.natAbs ^ n : Nat) : Int)) = x ^ n := by rw [← HP.out]; simp [hx]
        have hcl := close_as false A m c _ _ hz wr (hW.below hbel) hUr hm4
        clear hz
        go_wp2_with (with_reducible refine Calls.mono hcl ?_; rintro e w4 ⟨rfl, hb4⟩)
        go_ret2
        exact ⟨rfl, hbel.trans (hb4.mono hbel.size)⟩
    · have hb1 : 2 ^ i ≤ n := by
        apply Nat.le_of_not_lt
        intro h
        exact hq0 (hq'.symm.trans (Nat.div_eq_of_lt h))
      have hmb : m' ≤ 4294967296 := by
        have h1 := pcs_pow_len (m := 2 ^ i) HLT.out
        have h2 : L * 2 ^ i ≤ L * n := Nat.mul_le_mul_left _ hb1
        have h3 := len_le hUb h1
        omega
      have hqn : q ≤ n := hq' ▸ Nat.div_le_self _ _
      have hnx : n / 2 ^ (i + 1) = q / 2 := by rw [Nat.pow_succ, ← Nat.div_div_eq_div_mul, hq']
      have HNX := Lib.hid hnx; clear hnx hb1
      have hqpos : 0 < (q : Int) := by omega
      rcases Nat.mod_two_eq_zero_or_one q with hodd | hodd
      · have hne : (q : Int).tmod 2 = 0 := by rw [Int.tmod_eq_emod_of_nonneg (by omega)]; omega
        have hr := pow_next0 (u := x.natAbs) (n := n) (i := i) (by rw [hq']; exact hodd)
        have HR := Lib.hid hr; clear hr
        clear hq'
        have htm := times_any A' A' m' m' c' c' _ _ wr hUb hUb hmb hmb
        rw [pow_sq] at htm
        go_wp2_with fail
        with_reducible refine Calls.mono htm ?_
        rintro e w4 ⟨⟨A4, m4, c4, rfl, hU4, hf4⟩, hb4⟩
        have hUr4 := hUr.to hb4 (Nat.le_refl _)
        rw [HR.out] at hUr4
        have hk4 := (hb4.block _ (lt_of_block' hk)).trans hk
        have hB4 := hbel.trans (hb4.mono hbel.size)
        go_wp2_with fail
        refine ⟨⟨i + 1, A, m, c, A4, m4, c4, rfl, ?_, rfl, hUr4, hU4, hk4, hB4⟩, ?_⟩
        · rw [HNX.out]; simp
        · simp [intOf]; omega
      · have hne : (q : Int).tmod 2 = 1 := by rw [Int.tmod_eq_emod_of_nonneg (by omega)]; omega
        have hr := pow_next (u := x.natAbs) (n := n) (i := i) (by rw [hq']; exact hodd)
        have HR := Lib.hid hr; clear hr
        clear hq'
        have htr := times_any A A' m m' c c' _ _ wr hUr hUb hmr hmb
        rw [HR.out] at htr
        go_wp2_with fail
        with_reducible refine Calls.mono htr ?_
        rintro e w5 ⟨⟨A5, m5, c5, rfl, hU5, hf5⟩, hb5⟩
        have hUb5 := hUb.to hb5 (Nat.le_refl _)
        have hk5 := (hb5.block _ (lt_of_block' hk)).trans hk
        have hB5 := hbel.trans (hb5.mono hbel.size)
        have htm := times_any A' A' m' m' c' c' _ _ w5 hUb5 hUb5 hmb hmb
        rw [pow_sq] at htm
        go_wp2_with fail
        with_reducible refine Calls.mono htm ?_
        rintro e w4 ⟨⟨A4, m4, c4, rfl, hU4, hf4⟩, hb4⟩
        have hUr4 := hU5.to hb4 (Nat.le_refl _)
        have hk4 := (hb4.block _ (lt_of_block' hk5)).trans hk5
        have hB4 := hB5.trans (hb4.mono hB5.size)
        go_wp2_with fail
        refine ⟨⟨i + 1, A5, m5, c5, A4, m4, c4, rfl, ?_, rfl, hUr4, hU4, hk4, hB4⟩, ?_⟩
        · rw [HNX.out]; simp
        · simp [intOf]; omega
end Go.Proofs.YtgfgpepdkffhbaaGreatDoor.Kl
