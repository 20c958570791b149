/- integer.Add, the great operands.  -/
import Derived.Test.YtgfgpepdkffhbaaGreatDoorAdd
import Derived.Test.YtgfgpepdkffhbaaGreatDoorMinus
import Derived.Deep.RegionHeld3
namespace Go.Proofs.YtgfgpepdkffhbaaGreatDoor.Kl
open Go.RowKit Go.Shelf
set_option linter.unusedVariables false
set_option linter.unusedSimpArgs false

theorem cell2 {w : World} {b : Nat} {u v : Value} {T : TypeId} {fz : Nat × Nat} (h : w.heap[b]? = some (.cells #[u, v] T fz)) : w.cell? ⟨b, 0, none⟩ = some u ∧ w.cell? ⟨b, 1, none⟩ = some v := by
  constructor
  · rw [Lib.cell_of_heap h]; rfl
  · rw [Lib.cell_of_heap h]; rfl
theorem len_le {k : IntKind} {w : World} {B n c N : Nat} {A : Option Addr} {xs : List Nat} (h : IsU k w B A n c xs) (hx : xs.length ≤ N) : n ≤ N := by rw [← h.len]; exact hx

/-- close, the number told. -/
theorem close_as (m : Bool) (A : Option Addr) (len c : Nat) (x : Nat) (z : Int) (hz : (if m then -(x : Int) else (x : Int)) = z) (w : World) (hW : Wd w) (h : IsU .u64 w w.heap.size A len c (pcs 1000000000 x)) (hm : len ≤ 4294967296) :
    Calls Tryz.prog 69 #[.agg #[.bool m, .slice A len c]] w fun e w' => e = .returned (.string (txt z)) ∧ Below w.heap.size w w' := by
  subst hz; exact close_any m A len c x w hW h hm

theorem add_alike {x y : Int} (h : decide (x < 0) = decide (y < 0)) : (if decide (x < 0) then -((x.natAbs + y.natAbs : Nat) : Int) else ((x.natAbs + y.natAbs : Nat) : Int)) = x + y := by
  by_cases hx : x < 0 <;> by_cases hy : y < 0 <;> simp [hx, hy] at h ⊢ <;> omega
theorem add_other {x y : Int} (h : ¬ decide (x < 0) = decide (y < 0)) (hl : ¬ x.natAbs < y.natAbs) : (if decide (x < 0) then -((x.natAbs - y.natAbs : Nat) : Int) else ((x.natAbs - y.natAbs : Nat) : Int)) = x + y := by
  by_cases hx : x < 0 <;> by_cases hy : y < 0 <;> simp [hx, hy] at h ⊢ <;> omega

theorem add_other' {x y : Int} (h : ¬ decide (x < 0) = decide (y < 0)) (hl : x.natAbs < y.natAbs) : (if decide (y < 0) then -((y.natAbs - x.natAbs : Nat) : Int) else ((y.natAbs - x.natAbs : Nat) : Int)) = x + y := by
  by_cases hx : x < 0 <;> by_cases hy : y < 0 <;> simp [hx, hy] at h ⊢ <;> omega

theorem swap_boxes {w : World} {b : Nat} {T T' : TypeId} {u0 u1 v0 v1 : Value} (m1 : w.heap[b]? = some (.cells #[u0, u1] T (0, 0))) (m2 : w.heap[b + 1]? = some (.cells #[v0, v1] T' (0, 0))) :
    ∃ W, ((((w.setCell ⟨b, 0, none⟩ v0).setCell ⟨b, 1, none⟩ v1).setCell ⟨b + 1, 0, none⟩ u0).setCell ⟨b + 1, 1, none⟩ u1) = W ∧ W.heap[b]? = some (.cells #[v0, v1] T (0, 0)) ∧ W.heap[b + 1]? = some (.cells #[u0, u1] T' (0, 0)) ∧ ∀ B, B ≤ b → Below B w W := by
  refine ⟨_, rfl, ?_, ?_, fun B hB => ?_⟩
  · rw [Below.heap_setCell _ _ _ _ (by simp), Below.heap_setCell _ _ _ _ (by simp)]
    exact heap_setCell_same _ _ 1 #[v0, u1] _ _ (heap_setCell_same _ _ 0 #[u0, u1] _ _ m1)
  · refine heap_setCell_same _ _ 1 #[u0, v1] _ _ (heap_setCell_same _ _ 0 #[v0, v1] _ _ ?_)
    rw [Below.heap_setCell _ _ _ _ (by simp), Below.heap_setCell _ _ _ _ (by simp)]
    exact m2
  · exact ((((Below.refl B w).setCell (by simpa using hB) _).setCell (by simpa using hB) _).setCell (by simp; omega) _).setCell (by simp; omega) _

set_option maxHeartbeats 4000000 in
theorem add_big (x y : Int) (w : World) (hW : Wd w) (hbig : 18 < (Lib.itoa x).length ∨ 18 < (Lib.itoa y).length) (hxm : (Lib.itoa x).length ≤ 2147483648) (hym : (Lib.itoa y).length ≤ 2147483648) :
    Calls Tryz.prog 45 #[.string (txt x), .string (txt y)] w fun e w' => e = .returned (.string (txt (x + y))) ∧ Below w.heap.size w w' := by
  have hx4 : (Lib.itoa x).length ≤ 4294967296 := by omega
  have hy4 : (Lib.itoa y).length ≤ 4294967296 := by omega
  have px := pcs_itoa x
  have py := pcs_itoa y
  rcases Nat.lt_or_ge 18 (Lib.itoa x).length with hx | hx
  rotate_left
  · have hy : 18 < (Lib.itoa y).length := by omega
    have hcA := quick_yes x 18 (by decide) hx w
    go_enter Tryz.func45, Tryz.ntmps45
    go_wp2_with (first
      | (with_reducible refine Calls.mono hcA ?_; rintro e w0 ⟨rfl, hb0⟩; have hcB := quick_no y 18 (Nat.le_refl _) hy w0)
      | (with_reducible refine Calls.mono hcB ?_; rintro e w1 ⟨rfl, hb1'⟩; have hb1 := hb0.trans (hb1'.mono hb0.size); have hc2 := open_any x w1 hx4)
      | (with_reducible refine Calls.mono hc2 ?_; rintro e w2 ⟨⟨A1, n1, c1, rfl, hU1⟩, hb2⟩; have hc3 := open_any y w2 hy4)
      | (with_reducible refine Calls.mono hc3 ?_; rintro e w3 ⟨⟨A2, n2, c2, rfl, hU2⟩, hb3⟩))
    all_goals (
      have hb13 : Below w.heap.size w w3 := hb1.trans ((hb2.mono hb1.size).trans (hb3.mono (Nat.le_trans hb1.size hb2.size)))
      have hU1' := (hU1.to hb3 (Nat.le_refl _))
      obtain ⟨O1, hO1⟩ : ∃ O1, Obj.cells #[Value.bool (decide (x < 0)), Value.slice A1 n1 c1] 111 = O1 := ⟨_, rfl⟩
      obtain ⟨O2, hO2⟩ : ∃ O2, Obj.cells #[Value.bool (decide (y < 0)), Value.slice A2 n2 c2] 111 = O2 := ⟨_, rfl⟩
      rw [hO1, hO2]
      have hal : Below w3.heap.size w3 ((w3.alloc O1).alloc O2) := ((Below.refl _ w3).alloc (Nat.le_refl _) O1).alloc (by simp) O2
      have hU2' := hU2
      have hV1 := hU1'.to hal (Nat.le_refl _)
      have hV2 := hU2.to hal (Nat.le_refl _)
      have hB4 := hb13.trans (hal.mono hb13.size)
      have k1 : ((w3.alloc O1).alloc O2).heap[w3.heap.size]? = some O1 := (Below.heap_alloc _ _ _ (by simp)).trans (heap_alloc_new w3 _)
      have k2 : ((w3.alloc O1).alloc O2).heap[w3.heap.size + 1]? = some O2 := by
        have := heap_alloc_new (w3.alloc O1) O2
        rwa [World.size_alloc] at this
      obtain ⟨W4, hW4⟩ : ∃ W4, (w3.alloc O1).alloc O2 = W4 := ⟨_, rfl⟩
      rw [hW4] at hal hV1 hV2 hB4 k1 k2 ⊢
      clear hW4
      subst hO1 hO2
      have hn1 := len_le hV1 (Nat.le_trans px hxm)
      have hn2 := len_le hV2 (Nat.le_trans py hym)
      obtain ⟨cx0, cx1⟩ := cell2 k1
      obtain ⟨cy0, cy1⟩ := cell2 k2
      have hl1 := lt_of_block' k1
      have hl2 := lt_of_block' k2)
    · have hsum := pcs_add_len (Nat.le_trans px hxm) (Nat.le_trans py hym)
      have hcp := plus_any A1 A2 n1 n2 c1 c2 x.natAbs y.natAbs W4.drew hV1 hV2 (by omega) (by omega)
      have hB4d : Below w.heap.size w W4.drew := hB4.drew
      have hs4 : w.heap.size ≤ W4.drew.heap.size := hB4.size
      have hz := add_alike (x := x) (y := y) (by simpa using ‹(decide (x < 0) == decide (y < 0)) = true›)
      have d1 : W4.drew.cell? ⟨w3.heap.size, 0, none⟩ = some (.bool (decide (x < 0))) := cx0
      have d2 : W4.drew.cell? ⟨w3.heap.size, 1, none⟩ = some (.slice A1 n1 c1) := cx1
      have d3 : W4.drew.cell? ⟨w3.heap.size + 1, 1, none⟩ = some (.slice A2 n2 c2) := cy1
      go_region_held3 (fun w' : World => w'.cell? ⟨w3.heap.size, 0, none⟩ = some (.bool (decide (x < 0))) ∧ w'.cell? ⟨w3.heap.size, 1, none⟩ = some (.slice A1 n1 c1) ∧ w'.cell? ⟨w3.heap.size + 1, 1, none⟩ = some (.slice A2 n2 c2)) (first | exact ⟨by assumption, by assumption, by assumption⟩) (first
        | (with_reducible refine Calls.mono hcp ?_; rintro e w5 ⟨⟨A5, n5, c5, rfl, hU5⟩, hb5⟩; have m1 := (hb5.block _ hl1).trans k1; have m2 := (hb5.block _ hl2).trans k2; have e0 := cell2 m1; have e1 := e0.1; have e2 := e0.2; have e3 := cell2 m2; have e4 := e3.1; have e5 := e3.2; have hB5 := hB4d.trans (hb5.mono hs4); have hcl := close_as (decide (x < 0)) A5 n5 c5 _ _ hz w5 (hW.below hB5) hU5 (Nat.le_trans (len_le hU5 hsum) (Nat.le_of_ble_eq_true rfl)))
        | (with_reducible refine Calls.mono hcl ?_; rintro e w6 ⟨rfl, hb6⟩; have t1 := (hb6.block _ (lt_of_block' m1)).trans m1; have t2 := (hb6.block _ (lt_of_block' m2)).trans m2; have g1 := (cell2 t1).1; have g2 := (cell2 t1).2; have g3 := (cell2 t2).2))
      all_goals go_wp2_with fail
      all_goals go_ret
      all_goals exact ⟨rfl, hB5.trans (hb6.mono (hB5.size))⟩
    · have hns : ¬ decide (x < 0) = decide (y < 0) := by simpa using ‹(decide (x < 0) == decide (y < 0)) = false›
      have hcp := order_any A1 A2 n1 n2 c1 c2 x.natAbs y.natAbs W4 hV1 hV2 (by omega) (by omega)
      by_cases hlt : x.natAbs < y.natAbs
      · rw [show cmpN x.natAbs y.natAbs = -1 from if_pos hlt] at hcp
        with_reducible refine Calls.mono hcp ?_
        rintro e w5 ⟨rfl, hb5⟩
        have m1 := (hb5.block _ hl1).trans k1
        have m2 := (hb5.block _ hl2).trans k2
        have e0 := cell2 m1
        have e1 := e0.1
        have e2 := e0.2
        have e3 := cell2 m2
        have e4 := e3.1
        have e5 := e3.2
        have hB5 := hB4.trans (hb5.mono hB4.size)
        have hU1 := hV1.to hb5 (Nat.le_refl _)
        have hU2 := hV2.to hb5 (Nat.le_refl _)
        have f1 := Lib.frozen_of_heap m1 0
        have f2 := Lib.frozen_of_heap m1 1
        have f3 := Lib.frozen_of_heap m2 0
        have f4 := Lib.frozen_of_heap m2 1
        go_wp2_with fail
        obtain ⟨W6, hW6, q1, q2, hsb⟩ := swap_boxes m1 m2
        rw [hW6]
        have hb36 : Below w3.heap.size w3 W6 := (hal.trans (hb5.mono (by omega))).trans (hsb _ (Nat.le_refl _))
        have hUx6 := hU1'.to hb36 (Nat.le_refl _)
        have hUy6 := hU2'.to hb36 (Nat.le_refl _)
        have hB6 := hb13.trans (hb36.mono hb13.size)
        have hdif := pcs_sub_len (b := x.natAbs) (Nat.le_trans py hym)
        have hcm := minus_any A2 A1 n2 n1 c2 c1 y.natAbs x.natAbs W6.drew hUy6 hUx6 (by omega) (by omega) (by omega)
        have hB6d : Below w.heap.size w W6.drew := hB6.drew
        have hs6 : w.heap.size ≤ W6.drew.heap.size := hB6.size
        have hl16 := lt_of_block' q1
        have hl26 := lt_of_block' q2
        obtain ⟨cx0', cx1'⟩ := cell2 q1
        obtain ⟨cy0', cy1'⟩ := cell2 q2
        have hz := add_other' (x := x) (y := y) hns hlt
        have d1 : W6.drew.cell? ⟨w3.heap.size, 0, none⟩ = some (.bool (decide (y < 0))) := cx0'
        have d2 : W6.drew.cell? ⟨w3.heap.size, 1, none⟩ = some (.slice A2 n2 c2) := cx1'
        have d3 : W6.drew.cell? ⟨w3.heap.size + 1, 1, none⟩ = some (.slice A1 n1 c1) := cy1'
        go_region_held3 (fun w' : World => w'.cell? ⟨w3.heap.size, 0, none⟩ = some (.bool (decide (y < 0))) ∧ w'.cell? ⟨w3.heap.size, 1, none⟩ = some (.slice A2 n2 c2) ∧ w'.cell? ⟨w3.heap.size + 1, 1, none⟩ = some (.slice A1 n1 c1)) (first | exact ⟨by assumption, by assumption, by assumption⟩) (first
          | (with_reducible refine Calls.mono hcm ?_; rintro e w7 ⟨⟨A7, n7, c7, rfl, hU7, hf7⟩, hb7⟩; have t1 := (hb7.block _ hl16).trans q1; have t2 := (hb7.block _ hl26).trans q2; have e0 := cell2 t1; have e1 := e0.1; have e2 := e0.2; have e3 := cell2 t2; have e4 := e3.1; have e5 := e3.2; have hB7 := hB6d.trans (hb7.mono hs6); have hcl := close_as (decide (y < 0)) A7 n7 c7 _ _ hz w7 (hW.below hB7) hU7 (Nat.le_trans (len_le hU7 hdif) (Nat.le_of_ble_eq_true rfl)))
          | (with_reducible refine Calls.mono hcl ?_; rintro e w8 ⟨rfl, hb8⟩; have t3 := (hb8.block _ (lt_of_block' t1)).trans t1; have t4 := (hb8.block _ (lt_of_block' t2)).trans t2; have g1 := (cell2 t3).1; have g2 := (cell2 t3).2; have g3 := (cell2 t4).2))
        all_goals go_wp2_with fail
        all_goals go_ret
        all_goals exact ⟨rfl, hB7.trans (hb8.mono (hB7.size))⟩
      · have h0 : 0 ≤ cmpN x.natAbs y.natAbs := by unfold cmpN; rw [if_neg hlt]; split <;> omega
        obtain ⟨z, hz⟩ : ∃ z, cmpN x.natAbs y.natAbs = z := ⟨_, rfl⟩
        rw [hz] at hcp h0
        with_reducible refine Calls.mono hcp ?_
        rintro e W6 ⟨rfl, hb5⟩
        have q1 := (hb5.block _ hl1).trans k1
        have q2 := (hb5.block _ hl2).trans k2
        have hB6 := hB4.trans (hb5.mono hB4.size)
        have hUx6 := hV1.to hb5 (Nat.le_refl _)
        have hUy6 := hV2.to hb5 (Nat.le_refl _)
        go_wp2_with fail
        clear hz
        have hdif := pcs_sub_len (b := y.natAbs) (Nat.le_trans px hxm)
        have hcm := minus_any A1 A2 n1 n2 c1 c2 x.natAbs y.natAbs W6.drew hUx6 hUy6 (by omega) (by omega) (by omega)
        have hB6d : Below w.heap.size w W6.drew := hB6.drew
        have hs6 : w.heap.size ≤ W6.drew.heap.size := hB6.size
        have hl16 := lt_of_block' q1
        have hl26 := lt_of_block' q2
        obtain ⟨cx0', cx1'⟩ := cell2 q1
        obtain ⟨cy0', cy1'⟩ := cell2 q2
        have hz := add_other (x := x) (y := y) hns hlt
        have d1 : W6.drew.cell? ⟨w3.heap.size, 0, none⟩ = some (.bool (decide (x < 0))) := cx0'
        have d2 : W6.drew.cell? ⟨w3.heap.size, 1, none⟩ = some (.slice A1 n1 c1) := cx1'
        have d3 : W6.drew.cell? ⟨w3.heap.size + 1, 1, none⟩ = some (.slice A2 n2 c2) := cy1'
        go_region_held3 (fun w' : World => w'.cell? ⟨w3.heap.size, 0, none⟩ = some (.bool (decide (x < 0))) ∧ w'.cell? ⟨w3.heap.size, 1, none⟩ = some (.slice A1 n1 c1) ∧ w'.cell? ⟨w3.heap.size + 1, 1, none⟩ = some (.slice A2 n2 c2)) (first | exact ⟨by assumption, by assumption, by assumption⟩) (first
          | (with_reducible refine Calls.mono hcm ?_; rintro e w7 ⟨⟨A7, n7, c7, rfl, hU7, hf7⟩, hb7⟩; have t1 := (hb7.block _ hl16).trans q1; have t2 := (hb7.block _ hl26).trans q2; have e0 := cell2 t1; have e1 := e0.1; have e2 := e0.2; have e3 := cell2 t2; have e4 := e3.1; have e5 := e3.2; have hB7 := hB6d.trans (hb7.mono hs6); have hcl := close_as (decide (x < 0)) A7 n7 c7 _ _ hz w7 (hW.below hB7) hU7 (Nat.le_trans (len_le hU7 hdif) (Nat.le_of_ble_eq_true rfl)))
          | (with_reducible refine Calls.mono hcl ?_; rintro e w8 ⟨rfl, hb8⟩; have t3 := (hb8.block _ (lt_of_block' t1)).trans t1; have t4 := (hb8.block _ (lt_of_block' t2)).trans t2; have g1 := (cell2 t3).1; have g2 := (cell2 t3).2; have g3 := (cell2 t4).2))
        all_goals go_wp2_with fail
        all_goals go_ret
        all_goals exact ⟨rfl, hB7.trans (hb8.mono (hB7.size))⟩
  · have hcA := quick_no x 18 (by decide) hx w
    go_enter Tryz.func45, Tryz.ntmps45
    go_wp2_with (first
      | (with_reducible refine Calls.mono hcA ?_; rintro e w1 ⟨rfl, hb1⟩; have hc2 := open_any x w1 hx4)
      | (with_reducible refine Calls.mono hc2 ?_; rintro e w2 ⟨⟨A1, n1, c1, rfl, hU1⟩, hb2⟩; have hc3 := open_any y w2 hy4)
      | (with_reducible refine Calls.mono hc3 ?_; rintro e w3 ⟨⟨A2, n2, c2, rfl, hU2⟩, hb3⟩))
    all_goals (
      have hb13 : Below w.heap.size w w3 := hb1.trans ((hb2.mono hb1.size).trans (hb3.mono (Nat.le_trans hb1.size hb2.size)))
      have hU1' := (hU1.to hb3 (Nat.le_refl _))
      obtain ⟨O1, hO1⟩ : ∃ O1, Obj.cells #[Value.bool (decide (x < 0)), Value.slice A1 n1 c1] 111 = O1 := ⟨_, rfl⟩
      obtain ⟨O2, hO2⟩ : ∃ O2, Obj.cells #[Value.bool (decide (y < 0)), Value.slice A2 n2 c2] 111 = O2 := ⟨_, rfl⟩
      rw [hO1, hO2]
      have hal : Below w3.heap.size w3 ((w3.alloc O1).alloc O2) := ((Below.refl _ w3).alloc (Nat.le_refl _) O1).alloc (by simp) O2
      have hU2' := hU2
      have hV1 := hU1'.to hal (Nat.le_refl _)
      have hV2 := hU2.to hal (Nat.le_refl _)
      have hB4 := hb13.trans (hal.mono hb13.size)
      have k1 : ((w3.alloc O1).alloc O2).heap[w3.heap.size]? = some O1 := (Below.heap_alloc _ _ _ (by simp)).trans (heap_alloc_new w3 _)
      have k2 : ((w3.alloc O1).alloc O2).heap[w3.heap.size + 1]? = some O2 := by
        have := heap_alloc_new (w3.alloc O1) O2
        rwa [World.size_alloc] at this
      obtain ⟨W4, hW4⟩ : ∃ W4, (w3.alloc O1).alloc O2 = W4 := ⟨_, rfl⟩
      rw [hW4] at hal hV1 hV2 hB4 k1 k2 ⊢
      clear hW4
      subst hO1 hO2
      have hn1 := len_le hV1 (Nat.le_trans px hxm)
      have hn2 := len_le hV2 (Nat.le_trans py hym)
      obtain ⟨cx0, cx1⟩ := cell2 k1
      obtain ⟨cy0, cy1⟩ := cell2 k2
      have hl1 := lt_of_block' k1
      have hl2 := lt_of_block' k2)
    · have hsum := pcs_add_len (Nat.le_trans px hxm) (Nat.le_trans py hym)
      have hcp := plus_any A1 A2 n1 n2 c1 c2 x.natAbs y.natAbs W4.drew hV1 hV2 (by omega) (by omega)
      have hB4d : Below w.heap.size w W4.drew := hB4.drew
      have hs4 : w.heap.size ≤ W4.drew.heap.size := hB4.size
      have hz := add_alike (x := x) (y := y) (by simpa using ‹(decide (x < 0) == decide (y < 0)) = true›)
      have d1 : W4.drew.cell? ⟨w3.heap.size, 0, none⟩ = some (.bool (decide (x < 0))) := cx0
      have d2 : W4.drew.cell? ⟨w3.heap.size, 1, none⟩ = some (.slice A1 n1 c1) := cx1
      have d3 : W4.drew.cell? ⟨w3.heap.size + 1, 1, none⟩ = some (.slice A2 n2 c2) := cy1
      go_region_held3 (fun w' : World => w'.cell? ⟨w3.heap.size, 0, none⟩ = some (.bool (decide (x < 0))) ∧ w'.cell? ⟨w3.heap.size, 1, none⟩ = some (.slice A1 n1 c1) ∧ w'.cell? ⟨w3.heap.size + 1, 1, none⟩ = some (.slice A2 n2 c2)) (first | exact ⟨by assumption, by assumption, by assumption⟩) (first
        | (with_reducible refine Calls.mono hcp ?_; rintro e w5 ⟨⟨A5, n5, c5, rfl, hU5⟩, hb5⟩; have m1 := (hb5.block _ hl1).trans k1; have m2 := (hb5.block _ hl2).trans k2; have e0 := cell2 m1; have e1 := e0.1; have e2 := e0.2; have e3 := cell2 m2; have e4 := e3.1; have e5 := e3.2; have hB5 := hB4d.trans (hb5.mono hs4); have hcl := close_as (decide (x < 0)) A5 n5 c5 _ _ hz w5 (hW.below hB5) hU5 (Nat.le_trans (len_le hU5 hsum) (Nat.le_of_ble_eq_true rfl)))
        | (with_reducible refine Calls.mono hcl ?_; rintro e w6 ⟨rfl, hb6⟩; have t1 := (hb6.block _ (lt_of_block' m1)).trans m1; have t2 := (hb6.block _ (lt_of_block' m2)).trans m2; have g1 := (cell2 t1).1; have g2 := (cell2 t1).2; have g3 := (cell2 t2).2))
      all_goals go_wp2_with fail
      all_goals go_ret
      all_goals exact ⟨rfl, hB5.trans (hb6.mono (hB5.size))⟩
    · have hns : ¬ decide (x < 0) = decide (y < 0) := by simpa using ‹(decide (x < 0) == decide (y < 0)) = false›
      have hcp := order_any A1 A2 n1 n2 c1 c2 x.natAbs y.natAbs W4 hV1 hV2 (by omega) (by omega)
      by_cases hlt : x.natAbs < y.natAbs
      · rw [show cmpN x.natAbs y.natAbs = -1 from if_pos hlt] at hcp
        with_reducible refine Calls.mono hcp ?_
        rintro e w5 ⟨rfl, hb5⟩
        have m1 := (hb5.block _ hl1).trans k1
        have m2 := (hb5.block _ hl2).trans k2
        have e0 := cell2 m1
        have e1 := e0.1
        have e2 := e0.2
        have e3 := cell2 m2
        have e4 := e3.1
        have e5 := e3.2
        have hB5 := hB4.trans (hb5.mono hB4.size)
        have hU1 := hV1.to hb5 (Nat.le_refl _)
        have hU2 := hV2.to hb5 (Nat.le_refl _)
        have f1 := Lib.frozen_of_heap m1 0
        have f2 := Lib.frozen_of_heap m1 1
        have f3 := Lib.frozen_of_heap m2 0
        have f4 := Lib.frozen_of_heap m2 1
        go_wp2_with fail
        obtain ⟨W6, hW6, q1, q2, hsb⟩ := swap_boxes m1 m2
        rw [hW6]
        have hb36 : Below w3.heap.size w3 W6 := (hal.trans (hb5.mono (by omega))).trans (hsb _ (Nat.le_refl _))
        have hUx6 := hU1'.to hb36 (Nat.le_refl _)
        have hUy6 := hU2'.to hb36 (Nat.le_refl _)
        have hB6 := hb13.trans (hb36.mono hb13.size)
        have hdif := pcs_sub_len (b := x.natAbs) (Nat.le_trans py hym)
        have hcm := minus_any A2 A1 n2 n1 c2 c1 y.natAbs x.natAbs W6.drew hUy6 hUx6 (by omega) (by omega) (by omega)
        have hB6d : Below w.heap.size w W6.drew := hB6.drew
        have hs6 : w.heap.size ≤ W6.drew.heap.size := hB6.size
        have hl16 := lt_of_block' q1
        have hl26 := lt_of_block' q2
        obtain ⟨cx0', cx1'⟩ := cell2 q1
        obtain ⟨cy0', cy1'⟩ := cell2 q2
        have hz := add_other' (x := x) (y := y) hns hlt
        have d1 : W6.drew.cell? ⟨w3.heap.size, 0, none⟩ = some (.bool (decide (y < 0))) := cx0'
        have d2 : W6.drew.cell? ⟨w3.heap.size, 1, none⟩ = some (.slice A2 n2 c2) := cx1'
        have d3 : W6.drew.cell? ⟨w3.heap.size + 1, 1, none⟩ = some (.slice A1 n1 c1) := cy1'
        go_region_held3 (fun w' : World => w'.cell? ⟨w3.heap.size, 0, none⟩ = some (.bool (decide (y < 0))) ∧ w'.cell? ⟨w3.heap.size, 1, none⟩ = some (.slice A2 n2 c2) ∧ w'.cell? ⟨w3.heap.size + 1, 1, none⟩ = some (.slice A1 n1 c1)) (first | exact ⟨by assumption, by assumption, by assumption⟩) (first
          | (with_reducible refine Calls.mono hcm ?_; rintro e w7 ⟨⟨A7, n7, c7, rfl, hU7, hf7⟩, hb7⟩; have t1 := (hb7.block _ hl16).trans q1; have t2 := (hb7.block _ hl26).trans q2; have e0 := cell2 t1; have e1 := e0.1; have e2 := e0.2; have e3 := cell2 t2; have e4 := e3.1; have e5 := e3.2; have hB7 := hB6d.trans (hb7.mono hs6); have hcl := close_as (decide (y < 0)) A7 n7 c7 _ _ hz w7 (hW.below hB7) hU7 (Nat.le_trans (len_le hU7 hdif) (Nat.le_of_ble_eq_true rfl)))
          | (with_reducible refine Calls.mono hcl ?_; rintro e w8 ⟨rfl, hb8⟩; have t3 := (hb8.block _ (lt_of_block' t1)).trans t1; have t4 := (hb8.block _ (lt_of_block' t2)).trans t2; have g1 := (cell2 t3).1; have g2 := (cell2 t3).2; have g3 := (cell2 t4).2))
        all_goals go_wp2_with fail
        all_goals go_ret
        all_goals exact ⟨rfl, hB7.trans (hb8.mono (hB7.size))⟩
      · have h0 : 0 ≤ cmpN x.natAbs y.natAbs := by unfold cmpN; rw [if_neg hlt]; split <;> omega
        obtain ⟨z, hz⟩ : ∃ z, cmpN x.natAbs y.natAbs = z := ⟨_, rfl⟩
        rw [hz] at hcp h0
        with_reducible refine Calls.mono hcp ?_
        rintro e W6 ⟨rfl, hb5⟩
        have q1 := (hb5.block _ hl1).trans k1
        have q2 := (hb5.block _ hl2).trans k2
        have hB6 := hB4.trans (hb5.mono hB4.size)
        have hUx6 := hV1.to hb5 (Nat.le_refl _)
        have hUy6 := hV2.to hb5 (Nat.le_refl _)
        go_wp2_with fail
        clear hz
        have hdif := pcs_sub_len (b := y.natAbs) (Nat.le_trans px hxm)
        have hcm := minus_any A1 A2 n1 n2 c1 c2 x.natAbs y.natAbs W6.drew hUx6 hUy6 (by omega) (by omega) (by omega)
        have hB6d : Below w.heap.size w W6.drew := hB6.drew
        have hs6 : w.heap.size ≤ W6.drew.heap.size := hB6.size
        have hl16 := lt_of_block' q1
        have hl26 := lt_of_block' q2
        obtain ⟨cx0', cx1'⟩ := cell2 q1
        obtain ⟨cy0', cy1'⟩ := cell2 q2
        have hz := add_other (x := x) (y := y) hns hlt
        have d1 : W6.drew.cell? ⟨w3.heap.size, 0, none⟩ = some (.bool (decide (x < 0))) := cx0'
        have d2 : W6.drew.cell? ⟨w3.heap.size, 1, none⟩ = some (.slice A1 n1 c1) := cx1'
        have d3 : W6.drew.cell? ⟨w3.heap.size + 1, 1, none⟩ = some (.slice A2 n2 c2) := cy1'
        go_region_held3 (fun w' : World => w'.cell? ⟨w3.heap.size, 0, none⟩ = some (.bool (decide (x < 0))) ∧ w'.cell? ⟨w3.heap.size, 1, none⟩ = some (.slice A1 n1 c1) ∧ w'.cell? ⟨w3.heap.size + 1, 1, none⟩ = some (.slice A2 n2 c2)) (first | exact ⟨by assumption, by assumption, by assumption⟩) (first
          | (with_reducible refine Calls.mono hcm ?_; rintro e w7 ⟨⟨A7, n7, c7, rfl, hU7, hf7⟩, hb7⟩; have t1 := (hb7.block _ hl16).trans q1; have t2 := (hb7.block _ hl26).trans q2; have e0 := cell2 t1; have e1 := e0.1; have e2 := e0.2; have e3 := cell2 t2; have e4 := e3.1; have e5 := e3.2; have hB7 := hB6d.trans (hb7.mono hs6); have hcl := close_as (decide (x < 0)) A7 n7 c7 _ _ hz w7 (hW.below hB7) hU7 (Nat.le_trans (len_le hU7 hdif) (Nat.le_of_ble_eq_true rfl)))
          | (with_reducible refine Calls.mono hcl ?_; rintro e w8 ⟨rfl, hb8⟩; have t3 := (hb8.block _ (lt_of_block' t1)).trans t1; have t4 := (hb8.block _ (lt_of_block' t2)).trans t2; have g1 := (cell2 t3).1; have g2 := (cell2 t3).2; have g3 := (cell2 t4).2))
        all_goals go_wp2_with fail
        all_goals go_ret
        all_goals exact ⟨rfl, hB7.trans (hb8.mono (hB7.size))⟩
end Go.Proofs.YtgfgpepdkffhbaaGreatDoor.Kl
