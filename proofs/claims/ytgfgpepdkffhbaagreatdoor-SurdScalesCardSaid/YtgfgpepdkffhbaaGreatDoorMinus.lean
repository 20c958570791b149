/- The walk of integer.minus: the difference of two numbers, piece by piece. -/
import Derived.Test.YtgfgpepdkffhbaaGreatDoorTrim
import Derived.Test.YtgfgpepdkffhbaaGreatDoorOwn
namespace Go.Proofs.YtgfgpepdkffhbaaGreatDoor.Kl
open Go.RowKit
set_option linter.unusedVariables false
set_option linter.unusedSimpArgs false

/-- after k pieces: what has been laid, and the borrow. -/
structure MinusInv (B : Nat) (xs ys : List Nat) (k : Nat) (os : List Nat) (br : Nat) : Prop where
  len : os.length = k
  dig : Dig B os
  le : br ≤ 1
  eq : val B os + val B (ys.take k) = val B (xs.take k) + B ^ k * br

theorem MinusInv.step {B : Nat} {xs ys os : List Nat} {k br x y o br' : Nat} (h : MinusInv B xs ys k os br) (hx : xs[k]? = some x) (hy : ys[k]?.getD 0 = y) (ho : o < B) (hb : br' ≤ 1) (he : br + o + y = x + B * br') :
    MinusInv B xs ys (k + 1) (os ++ [o]) br' := by
  obtain ⟨h1, h2, h3, h4⟩ := h
  refine ⟨by simp [h1], h2.app (Dig.one ho), hb, ?_⟩
  rw [val_snoc, h1, val_take_succ, val_take_succ, hx, hy, Option.getD_some, Nat.pow_succ]
  have e := congrArg (fun t => B ^ k * t) he
  simp only [Nat.mul_add] at e
  rw [← Nat.mul_assoc] at e
  omega

theorem MinusInv.zero (B : Nat) (xs ys : List Nat) : MinusInv B xs ys 0 [] 0 := ⟨rfl, Dig.nil B, by omega, by simp [val]⟩

theorem MinusInv.fin {B : Nat} {xs ys os : List Nat} {k br : Nat} (h : MinusInv B xs ys k os br) (hB : 1 < B) (hk : xs.length = k) (hl : ys.length ≤ k) (hle : val B ys ≤ val B xs) : trimL os = pcs B (val B xs - val B ys) := by
  obtain ⟨h1, h2, h3, h4⟩ := h
  rw [List.take_of_length_le (l := xs) (by omega), List.take_of_length_le hl] at h4
  have hv := val_lt h2
  rw [h1] at hv
  have hbr : br = 0 := by
    rcases Nat.eq_zero_or_pos br with h0 | h0
    · exact h0
    · have : br = 1 := by omega
      subst this
      omega
  subst hbr
  rw [trim_pcs' hB h2]; congr 1; omega

set_option maxHeartbeats 1000000 in
set_option maxRecDepth 100000 in
theorem minus_any (A A' : Option Addr) (n n' c c' : Nat) (x y : Nat) (w : World) (h : IsU .u64 w w.heap.size A n c (pcs 1000000000 x)) (h' : IsU .u64 w w.heap.size A' n' c' (pcs 1000000000 y))
    (hm : n ≤ 4294967296) (hm' : n' ≤ 4294967296) (hyx : y ≤ x) :
    Calls Tryz.prog 91 #[.slice A n c, .slice A' n' c'] w fun e w' => (∃ A1 n1 c1, e = .returned (.slice A1 n1 c1) ∧ IsU .u64 w' w'.heap.size A1 n1 c1 (pcs 1000000000 (x - y)) ∧ Fresh w.heap.size A1) ∧ Below w.heap.size w w' := by
  obtain rfl := h.len
  obtain rfl := h'.len
  have dx := dig_pcs (B := 1000000000) (by decide) x
  have dy := dig_pcs (B := 1000000000) (by decide) y
  have vx := val_pcs (B := 1000000000) (by decide) x
  have vy := val_pcs (B := 1000000000) (by decide) y
  have hge : (pcs 1000000000 y).length ≤ (pcs 1000000000 x).length := by
    rcases Nat.lt_or_ge (pcs 1000000000 x).length (pcs 1000000000 y).length with h1 | h1
    · have := lt_of_len_lt (B := 1000000000) (by decide) h1; omega
    · exact h1
  have hpq : pcs 1000000000 (x - y) = pcs 1000000000 (val 1000000000 (pcs 1000000000 x) - val 1000000000 (pcs 1000000000 y)) := by rw [vx, vy]
  have hle : val 1000000000 (pcs 1000000000 y) ≤ val 1000000000 (pcs 1000000000 x) := by rw [vx, vy]; exact hyx
  rw [hpq]
  clear vx vy hpq hyx
  generalize pcs 1000000000 x = xs at *
  generalize pcs 1000000000 y = ys at *
  have DX := Lib.hid dx; clear dx
  have DY := Lib.hid dy; clear dy
  have VL := Lib.hid hle; clear hle
  obtain ⟨i0, hi0, hz0, hz1, hz2⟩ := info_parts info_u64
  obtain ⟨P, hP⟩ : ∃ P : List Nat, P = pcs 1000000000 (val 1000000000 xs - val 1000000000 ys) := ⟨_, rfl⟩
  rw [← hP]
  have HP := Lib.hid hP; clear hP
  go_enter Tryz.func91, Tryz.ntmps91
  go_wp2_with (at_make; refine wpList_make_own _ rfl _ _ 109 rfl w.heap.size 145 i0 (.int .u64 0) 1 Tryz.underlying109 hi0 hz0 hz1 .i64 .i64 _ xs.length rfl rfl (by omega) (by rw [hz2]; omega) (by unfold maxLen; omega) (Nat.le_refl _) ?_; intro w0 hown0 hgrow0)
  have hb0 : Below w.heap.size w w0 := (Below.refl _ _).grown hgrow0 (Nat.le_refl _) (by simp)
  have ho0 : Own .u64 145 w0 w.heap.size (.slice (some ⟨w.heap.size, 0, none⟩) 0 xs.length) [] := hown0
  clear hown0 hgrow0
  go_loopw [5, 6, 7, 8, 9, 15] (fun v br _ _ _ i wr => ∃ (k bn : Nat) (os : List Nat), k ≤ xs.length ∧ i = .int .i64 k ∧ br = .int .u64 bn ∧ Own .u64 145 wr w.heap.size v os ∧ MinusInv 1000000000 xs ys k os bn ∧ Below w.heap.size w wr)
    (fun _ _ _ _ _ i _ => xs.length - (intOf i).toNat)
  case atStart => exact ⟨0, 0, [], Nat.zero_le _, rfl, rfl, ho0, MinusInv.zero _ _ _, hb0⟩
  case round =>
    obtain ⟨k, bn, os, hk, rfl, rfl, hown, hinv, hbel⟩ := hrel
    have hlo := hinv.len
    have hle := hinv.le
    have LO := Lib.hid hlo
    by_cases hkl : k < xs.length
    · obtain ⟨ad, a, rfl, hb, hxa, hca⟩ := (h.below hbel).at_ (j := k) hkl
      have hab : a < 1000000000 := DX.out a (List.mem_of_getElem? hxa)
      obtain ⟨b, hyb, hbb, hybs⟩ : ∃ b, ys[k]?.getD 0 = b ∧ b < 1000000000 ∧ (¬ k < ys.length → b = 0) := by
        rcases hq : ys[k]? with _ | b
        · exact ⟨0, rfl, by decide, fun _ => rfl⟩
        · exact ⟨b, rfl, DY.out b (List.mem_of_getElem? hq), fun hn => absurd (List.getElem?_eq_some_iff.1 hq).1 hn⟩
      have HYB := Lib.hid hybs; clear hybs
      have HXA := Lib.hid hxa; clear hxa
      have hosl : os.length ≤ 4294967296 := by omega
      clear hlo
      by_cases hky : k < ys.length
      · obtain ⟨ad', b', rfl, hb', hyb', hcb⟩ := (h'.below hbel).at_ (j := k) hky
        obtain rfl : b' = b := by rw [← hyb, hyb']; rfl
        have HY := Lib.hid hyb; clear hyb hyb'
        by_cases hlt : a < bn + b'
        · go_wp2_with (at_builtin; refine wpList_append_own _ rfl _ _ 109 rfl w.heap.size 145 i0 (.int .u64 0) 1 8 Tryz.underlying109 hi0 hz0 hz1 hz2 rfl (by decide) _ _ _ rfl (hown.row.alloc _) ⟨wr.heap.size, 0, none⟩ 1 1 [.int .u64 ((a : Int) + 1000000000 - ((bn : Int) + (b' : Int)))] rfl rfl (cell_one_new _ _ _) (by intro u hu; simp only [List.mem_singleton] at hu; subst hu; rfl) (by unfold maxLen; omega) (by omega) (by have := hbel.size; simp; omega) ?_; intro v' w1 hown' hgrow _)
          have hb1 : Below w.heap.size w w1 := (hbel.alloc hbel.size _).grown hgrow (by have := hbel.size; simp; omega) (own_base' hown)
          obtain ⟨o, ho⟩ : ∃ o : Nat, ((a : Int) + 1000000000 - ((bn : Int) + (b' : Int))) = (o : Int) := Int.eq_ofNat_of_zero_le (by omega)
          have ho2 := ho
          rw [ho] at hown'
          have ho1 : Own .u64 145 w1 w.heap.size v' (os ++ [o]) := Own.snoc hown'
          have hst := hinv.step (o := o) (br' := 1) HXA.out HY.out (by omega) (by decide) (by omega)
          have HS := Lib.hid hst
          clear hown' hgrow hown hbel hst ho ho2
          go_wp2
          go_roundw
          case rel => exact ⟨k + 1, 1, _, by omega, by go_num, rfl, ho1, HS.out, hb1⟩
          case measure => simp [intOf] <;> omega
        · go_wp2_with (at_builtin; refine wpList_append_own _ rfl _ _ 109 rfl w.heap.size 145 i0 (.int .u64 0) 1 8 Tryz.underlying109 hi0 hz0 hz1 hz2 rfl (by decide) _ _ _ rfl (hown.row.alloc _) ⟨wr.heap.size, 0, none⟩ 1 1 [.int .u64 ((a : Int) - ((bn : Int) + (b' : Int)))] rfl rfl (cell_one_new _ _ _) (by intro u hu; simp only [List.mem_singleton] at hu; subst hu; rfl) (by unfold maxLen; omega) (by omega) (by have := hbel.size; simp; omega) ?_; intro v' w1 hown' hgrow _)
          have hb1 : Below w.heap.size w w1 := (hbel.alloc hbel.size _).grown hgrow (by have := hbel.size; simp; omega) (own_base' hown)
          obtain ⟨o, ho⟩ : ∃ o : Nat, ((a : Int) - ((bn : Int) + (b' : Int))) = (o : Int) := Int.eq_ofNat_of_zero_le (by omega)
          have ho2 := ho
          rw [ho] at hown'
          have ho1 : Own .u64 145 w1 w.heap.size v' (os ++ [o]) := Own.snoc hown'
          have hst := hinv.step (o := o) (br' := 0) HXA.out HY.out (by omega) (by decide) (by omega)
          have HS := Lib.hid hst
          clear hown' hgrow hown hbel hst ho ho2
          go_wp2
          go_roundw
          case rel => exact ⟨k + 1, 0, _, by omega, by go_num, rfl, ho1, HS.out, hb1⟩
          case measure => simp [intOf] <;> omega
      · obtain rfl : b = 0 := HYB.out hky
        have HY := Lib.hid hyb; clear hyb
        by_cases hlt : a < bn
        · go_wp2_with (at_builtin; refine wpList_append_own _ rfl _ _ 109 rfl w.heap.size 145 i0 (.int .u64 0) 1 8 Tryz.underlying109 hi0 hz0 hz1 hz2 rfl (by decide) _ _ _ rfl (hown.row.alloc _) ⟨wr.heap.size, 0, none⟩ 1 1 [.int .u64 ((a : Int) + 1000000000 - (bn : Int))] rfl rfl (cell_one_new _ _ _) (by intro u hu; simp only [List.mem_singleton] at hu; subst hu; rfl) (by unfold maxLen; omega) (by omega) (by have := hbel.size; simp; omega) ?_; intro v' w1 hown' hgrow _)
          have hb1 : Below w.heap.size w w1 := (hbel.alloc hbel.size _).grown hgrow (by have := hbel.size; simp; omega) (own_base' hown)
          obtain ⟨o, ho⟩ : ∃ o : Nat, ((a : Int) + 1000000000 - (bn : Int)) = (o : Int) := Int.eq_ofNat_of_zero_le (by omega)
          have ho2 := ho
          rw [ho] at hown'
          have ho1 : Own .u64 145 w1 w.heap.size v' (os ++ [o]) := Own.snoc hown'
          have hst := hinv.step (o := o) (br' := 1) HXA.out HY.out (by omega) (by decide) (by omega)
          have HS := Lib.hid hst
          clear hown' hgrow hown hbel hst ho ho2
          go_wp2
          go_roundw
          case rel => exact ⟨k + 1, 1, _, by omega, by go_num, rfl, ho1, HS.out, hb1⟩
          case measure => simp [intOf] <;> omega
        · go_wp2_with (at_builtin; refine wpList_append_own _ rfl _ _ 109 rfl w.heap.size 145 i0 (.int .u64 0) 1 8 Tryz.underlying109 hi0 hz0 hz1 hz2 rfl (by decide) _ _ _ rfl (hown.row.alloc _) ⟨wr.heap.size, 0, none⟩ 1 1 [.int .u64 ((a : Int) - (bn : Int))] rfl rfl (cell_one_new _ _ _) (by intro u hu; simp only [List.mem_singleton] at hu; subst hu; rfl) (by unfold maxLen; omega) (by omega) (by have := hbel.size; simp; omega) ?_; intro v' w1 hown' hgrow _)
          have hb1 : Below w.heap.size w w1 := (hbel.alloc hbel.size _).grown hgrow (by have := hbel.size; simp; omega) (own_base' hown)
          obtain ⟨o, ho⟩ : ∃ o : Nat, ((a : Int) - (bn : Int)) = (o : Int) := Int.eq_ofNat_of_zero_le (by omega)
          have ho2 := ho
          rw [ho] at hown'
          have ho1 : Own .u64 145 w1 w.heap.size v' (os ++ [o]) := Own.snoc hown'
          have hst := hinv.step (o := o) (br' := 0) HXA.out HY.out (by omega) (by decide) (by omega)
          have HS := Lib.hid hst
          clear hown' hgrow hown hbel hst ho ho2
          go_wp2
          go_roundw
          case rel => exact ⟨k + 1, 0, _, by omega, by go_num, rfl, ho1, HS.out, hb1⟩
          case measure => simp [intOf] <;> omega
    · have hkk : k = xs.length := by omega
      have hfin := hinv.fin (by decide) hkk.symm (by omega) VL.out
      rw [← HP.out] at hfin
      have hosl : os.length ≤ 4294967296 := by omega
      obtain ⟨A1, c1, rfl, hU⟩ := hown.form' (n := os.length) rfl
      have hfr := hown.fresh
      have HF := Lib.hid hfin; clear hfin hkk hlo
      go_wp2_with (go_at_call 109; refine (trim_any A1 _ c1 _ _ hU (by omega)).mono ?_; rintro e w' ⟨rfl, rfl⟩)
      go_ret
      have hT := hU.trim
      rw [HF.out] at hT
      exact ⟨⟨A1, _, c1, by rw [HF.out]; rfl, hT, hfr⟩, hbel⟩

end Go.Proofs.YtgfgpepdkffhbaaGreatDoor.Kl
