/- The walk of integer.plus: the sum of two numbers, piece by piece. -/
import Derived.Test.YtgfgpepdkffhbaaGreatDoorTrim
import Derived.Test.YtgfgpepdkffhbaaGreatDoorOwn
namespace Go.Proofs.YtgfgpepdkffhbaaGreatDoor.Kl
open Go.RowKit
set_option linter.unusedVariables false
set_option linter.unusedSimpArgs false

/-- after k pieces: what has been laid, and the carry. -/
structure PlusInv (B : Nat) (xs ys : List Nat) (k : Nat) (os : List Nat) (cr : Nat) : Prop where
  len : os.length = k
  dig : Dig B os
  le : cr ≤ 1
  eq : val B os + B ^ k * cr = val B (xs.take k) + val B (ys.take k)

theorem PlusInv.step {B : Nat} {xs ys os : List Nat} {k cr x y : Nat} (h : PlusInv B xs ys k os cr) (hB : 0 < B) (hx : xs[k]? = some x) (hxb : x < B) (hy : ys[k]?.getD 0 = y) (hyb : y < B) :
    PlusInv B xs ys (k + 1) (os ++ [(cr + x + y) % B]) ((cr + x + y) / B) := by
  obtain ⟨h1, h2, h3, h4⟩ := h
  refine ⟨by simp [h1], h2.app (Dig.one (Nat.mod_lt _ hB)), ?_, ?_⟩
  · have := Nat.div_lt_of_lt_mul (show cr + x + y < B * 2 by omega); omega
  · rw [val_snoc, h1, val_take_succ, val_take_succ, hx, hy, Option.getD_some, Nat.pow_succ]
    have hdm := Nat.mod_add_div (cr + x + y) B
    have e : B ^ k * ((cr + x + y) % B) + B ^ k * B * ((cr + x + y) / B) = B ^ k * (cr + x + y) := by
      rw [Nat.mul_assoc, ← Nat.mul_add, hdm]
    have e2 : B ^ k * (cr + x + y) = B ^ k * cr + B ^ k * x + B ^ k * y := by rw [Nat.mul_add, Nat.mul_add]
    omega

theorem PlusInv.zero (B : Nat) (xs ys : List Nat) : PlusInv B xs ys 0 [] 0 := ⟨rfl, Dig.nil B, by omega, by simp [val]⟩

theorem PlusInv.fin {B : Nat} {xs ys os : List Nat} {k cr : Nat} (h : PlusInv B xs ys k os cr) (hB : 1 < B) (hk : xs.length = k) (hl : ys.length ≤ k) : trimL (os ++ [cr]) = pcs B (val B xs + val B ys) := by
  obtain ⟨h1, h2, h3, h4⟩ := h
  rw [trim_pcs' hB (h2.app (Dig.one (by omega))), val_snoc, h1, h4, List.take_of_length_le (by omega), List.take_of_length_le hl]

set_option maxHeartbeats 1000000 in
theorem plus_any (A A' : Option Addr) (n n' c c' : Nat) (x y : Nat) (w : World) (h : IsU .u64 w w.heap.size A n c (pcs 1000000000 x)) (h' : IsU .u64 w w.heap.size A' n' c' (pcs 1000000000 y))
    (hm : n ≤ 4294967296) (hm' : n' ≤ 4294967296) :
    Calls Tryz.prog 89 #[.slice A n c, .slice A' n' c'] w fun e w' => (∃ A1 n1 c1, e = .returned (.slice A1 n1 c1) ∧ IsU .u64 w' w'.heap.size A1 n1 c1 (pcs 1000000000 (x + y))) ∧ Below w.heap.size w w' := by
  obtain rfl := h.len
  obtain rfl := h'.len
  have dx := dig_pcs (B := 1000000000) (by decide) x
  have dy := dig_pcs (B := 1000000000) (by decide) y
  have vx := val_pcs (B := 1000000000) (by decide) x
  have vy := val_pcs (B := 1000000000) (by decide) y
  have hpq : pcs 1000000000 (x + y) = pcs 1000000000 (val 1000000000 (pcs 1000000000 x) + val 1000000000 (pcs 1000000000 y)) := by rw [vx, vy]
  rw [hpq]
  clear vx vy hpq
  generalize pcs 1000000000 x = xs at *
  generalize pcs 1000000000 y = ys at *
  have DX := Lib.hid dx; clear dx
  have DY := Lib.hid dy; clear dy
  obtain ⟨i0, hi0, hz0, hz1, hz2⟩ := info_parts info_u64
  rcases Nat.lt_or_ge xs.length ys.length with hlt | hge
  · have hlt' : (xs.length : Int) < ys.length := by omega
    obtain ⟨P, hP⟩ : ∃ P : List Nat, P = pcs 1000000000 (val 1000000000 ys + val 1000000000 xs) := ⟨_, rfl⟩
    rw [show val 1000000000 xs + val 1000000000 ys = val 1000000000 ys + val 1000000000 xs by omega, ← hP]
    have HP := Lib.hid hP; clear hP
    go_enter Tryz.func89, Tryz.ntmps89
    go_wp2_with (at_make; refine wpList_make_own _ rfl _ _ 109 rfl w.heap.size 145 i0 (.int .u64 0) 1 Tryz.underlying109 hi0 hz0 hz1 .i64 .i64 _ (ys.length + 1) rfl rfl (by omega) (by rw [hz2]; omega) (by unfold maxLen; omega) (Nat.le_refl _) ?_; intro w0 hown0 hgrow0)
    have hb0 : Below w.heap.size w w0 := (Below.refl _ _).grown hgrow0 (Nat.le_refl _) (by simp)
    have ho0 : Own .u64 145 w0 w.heap.size (.slice (some ⟨w.heap.size, 0, none⟩) 0 (ys.length + 1)) [] := hown0
    clear hown0 hgrow0
    go_loopw [5, 6, 7, 8, 22] (fun v cr _ _ i wr => ∃ (k cn : Nat) (os : List Nat), k ≤ ys.length ∧ i = .int .i64 k ∧ cr = .int .u64 cn ∧ Own .u64 145 wr w.heap.size v os ∧ PlusInv 1000000000 ys xs k os cn ∧ Below w.heap.size w wr)
      (fun _ _ _ _ i _ => ys.length - (intOf i).toNat)
    case atStart => exact ⟨0, 0, [], Nat.zero_le _, rfl, rfl, ho0, PlusInv.zero _ _ _, hb0⟩
    case round =>
      obtain ⟨k, cn, os, hk, rfl, rfl, hown, hinv, hbel⟩ := hrel
      have hlo := hinv.len
      have hle := hinv.le
      have LO := Lib.hid hlo
      by_cases hkl : k < ys.length
      · obtain ⟨ad, a, rfl, hb, hxa, hca⟩ := (h'.below hbel).at_ (j := k) hkl
        have hab : a < 1000000000 := DY.out a (List.mem_of_getElem? hxa)
        by_cases hky : k < xs.length
        · obtain ⟨ad', b, rfl, hb', hyb, hcb⟩ := (h.below hbel).at_ (j := k) hky
          have hbb : b < 1000000000 := DX.out b (List.mem_of_getElem? hyb)
          have hst := hinv.step (by decide) hxa hab (show xs[k]?.getD 0 = b by rw [hyb]; rfl) hbb
          have HS := Lib.hid hst; clear hst hxa hyb hlo
          have hosl : os.length ≤ 4294967296 := by have := LO.out; omega
          go_wp2_with (at_builtin; refine wpList_append_own _ rfl _ _ 109 rfl w.heap.size 145 i0 (.int .u64 0) 1 8 Tryz.underlying109 hi0 hz0 hz1 hz2 rfl (by decide) _ _ _ rfl (hown.row.alloc _) ⟨wr.heap.size, 0, none⟩ 1 1 [.int .u64 ((cn + a + b) % 1000000000 : Nat)] rfl rfl (cell_one_new _ _ _) (us_one (k := .u64) [(cn + a + b) % 1000000000]) (by unfold maxLen; omega) (by omega) (by have := hbel.size; simp; omega) ?_; intro v' w1 hown' hgrow _)
          have hb1 : Below w.heap.size w w1 := (hbel.alloc hbel.size _).grown hgrow (by have := hbel.size; simp; omega) (own_base' hown)
          have ho1 : Own .u64 145 w1 w.heap.size v' (os ++ [(cn + a + b) % 1000000000]) := Own.snoc hown'
          clear hown' hgrow hown hbel
          go_wp2
          go_roundw
          case rel => exact ⟨k + 1, _, _, by omega, by go_num, by first | rfl | go_num, ho1, HS.out, hb1⟩
          case measure => simp [intOf] <;> omega
        · have hst := hinv.step (by decide) hxa hab (show xs[k]?.getD 0 = 0 by rw [List.getElem?_eq_none (by omega)]; rfl) (by decide)
          simp only [Nat.add_zero] at hst
          have HS := Lib.hid hst; clear hst hxa hlo
          have hosl : os.length ≤ 4294967296 := by have := LO.out; omega
          go_wp2_with (at_builtin; refine wpList_append_own _ rfl _ _ 109 rfl w.heap.size 145 i0 (.int .u64 0) 1 8 Tryz.underlying109 hi0 hz0 hz1 hz2 rfl (by decide) _ _ _ rfl (hown.row.alloc _) ⟨wr.heap.size, 0, none⟩ 1 1 [.int .u64 ((cn + a) % 1000000000 : Nat)] rfl rfl (cell_one_new _ _ _) (us_one (k := .u64) [(cn + a) % 1000000000]) (by unfold maxLen; omega) (by omega) (by have := hbel.size; simp; omega) ?_; intro v' w1 hown' hgrow _)
          have hb1 : Below w.heap.size w w1 := (hbel.alloc hbel.size _).grown hgrow (by have := hbel.size; simp; omega) (own_base' hown)
          have ho1 : Own .u64 145 w1 w.heap.size v' (os ++ [(cn + a) % 1000000000]) := Own.snoc hown'
          clear hown' hgrow hown hbel
          go_wp2
          go_roundw
          case rel => exact ⟨k + 1, _, _, by omega, by go_num, by first | rfl | go_num, ho1, HS.out, hb1⟩
          case measure => simp [intOf] <;> omega
      · have hkk : k = ys.length := by omega
        have hfin := hinv.fin (by decide) hkk.symm (by omega)
        rw [← HP.out] at hfin
        have hosl : os.length ≤ 4294967296 := by omega
        have HF := Lib.hid hfin; clear hfin hkk hlo
        go_wp2_with (first
          | (at_builtin; refine wpList_append_own _ rfl _ _ 109 rfl w.heap.size 145 i0 (.int .u64 0) 1 8 Tryz.underlying109 hi0 hz0 hz1 hz2 rfl (by decide) _ _ _ rfl (hown.row.alloc _) ⟨wr.heap.size, 0, none⟩ 1 1 [.int .u64 (cn : Nat)] rfl rfl (cell_one_new _ _ _) (us_one (k := .u64) [cn]) (by unfold maxLen; omega) (by omega) (by have := hbel.size; simp; omega) ?_; intro v' w1 hown' hgrow _; have hb1 : Below w.heap.size w w1 := (hbel.alloc hbel.size _).grown hgrow (by have := hbel.size; simp; omega) (own_base' hown); have ho1 : Own .u64 145 w1 w.heap.size v' (os ++ [cn]) := Own.snoc hown'; clear hown' hgrow; obtain ⟨A1, c1, rfl, hU⟩ := ho1.form' (n := os.length + 1) (by simp))
          | (go_at_call 109; refine (trim_any A1 _ c1 _ _ hU (by omega)).mono ?_; rintro e w' ⟨rfl, rfl⟩))
        go_ret
        have hT := hU.trim
        rw [HF.out] at hT
        exact ⟨⟨A1, _, c1, by rw [HF.out]; rfl, hT⟩, hb1⟩
  · have hlt' : ¬ (xs.length : Int) < ys.length := by omega
    obtain ⟨P, hP⟩ : ∃ P : List Nat, P = pcs 1000000000 (val 1000000000 xs + val 1000000000 ys) := ⟨_, rfl⟩
    rw [← hP]
    have HP := Lib.hid hP; clear hP
    go_enter Tryz.func89, Tryz.ntmps89
    go_wp2_with (at_make; refine wpList_make_own _ rfl _ _ 109 rfl w.heap.size 145 i0 (.int .u64 0) 1 Tryz.underlying109 hi0 hz0 hz1 .i64 .i64 _ (xs.length + 1) rfl rfl (by omega) (by rw [hz2]; omega) (by unfold maxLen; omega) (Nat.le_refl _) ?_; intro w0 hown0 hgrow0)
    have hb0 : Below w.heap.size w w0 := (Below.refl _ _).grown hgrow0 (Nat.le_refl _) (by simp)
    have ho0 : Own .u64 145 w0 w.heap.size (.slice (some ⟨w.heap.size, 0, none⟩) 0 (xs.length + 1)) [] := hown0
    clear hown0 hgrow0
    go_loopw [5, 6, 7, 8, 22] (fun v cr _ _ i wr => ∃ (k cn : Nat) (os : List Nat), k ≤ xs.length ∧ i = .int .i64 k ∧ cr = .int .u64 cn ∧ Own .u64 145 wr w.heap.size v os ∧ PlusInv 1000000000 xs ys k os cn ∧ Below w.heap.size w wr)
      (fun _ _ _ _ i _ => xs.length - (intOf i).toNat)
    case atStart => exact ⟨0, 0, [], Nat.zero_le _, rfl, rfl, ho0, PlusInv.zero _ _ _, hb0⟩
    case round =>
      obtain ⟨k, cn, os, hk, rfl, rfl, hown, hinv, hbel⟩ := hrel
      have hlo := hinv.len
      have hle := hinv.le
      have LO := Lib.hid hlo
      by_cases hkl : k < xs.length
      · obtain ⟨ad, a, rfl, hb, hxa, hca⟩ := (h.below hbel).at_ (j := k) hkl
        have hab : a < 1000000000 := DX.out a (List.mem_of_getElem? hxa)
        by_cases hky : k < ys.length
        · obtain ⟨ad', b, rfl, hb', hyb, hcb⟩ := (h'.below hbel).at_ (j := k) hky
          have hbb : b < 1000000000 := DY.out b (List.mem_of_getElem? hyb)
          have hst := hinv.step (by decide) hxa hab (show ys[k]?.getD 0 = b by rw [hyb]; rfl) hbb
          have HS := Lib.hid hst; clear hst hxa hyb hlo
          have hosl : os.length ≤ 4294967296 := by have := LO.out; omega
          go_wp2_with (at_builtin; refine wpList_append_own _ rfl _ _ 109 rfl w.heap.size 145 i0 (.int .u64 0) 1 8 Tryz.underlying109 hi0 hz0 hz1 hz2 rfl (by decide) _ _ _ rfl (hown.row.alloc _) ⟨wr.heap.size, 0, none⟩ 1 1 [.int .u64 ((cn + a + b) % 1000000000 : Nat)] rfl rfl (cell_one_new _ _ _) (us_one (k := .u64) [(cn + a + b) % 1000000000]) (by unfold maxLen; omega) (by omega) (by have := hbel.size; simp; omega) ?_; intro v' w1 hown' hgrow _)
          have hb1 : Below w.heap.size w w1 := (hbel.alloc hbel.size _).grown hgrow (by have := hbel.size; simp; omega) (own_base' hown)
          have ho1 : Own .u64 145 w1 w.heap.size v' (os ++ [(cn + a + b) % 1000000000]) := Own.snoc hown'
          clear hown' hgrow hown hbel
          go_wp2
          go_roundw
          case rel => exact ⟨k + 1, _, _, by omega, by go_num, by first | rfl | go_num, ho1, HS.out, hb1⟩
          case measure => simp [intOf] <;> omega
        · have hst := hinv.step (by decide) hxa hab (show ys[k]?.getD 0 = 0 by rw [List.getElem?_eq_none (by omega)]; rfl) (by decide)
          simp only [Nat.add_zero] at hst
          have HS := Lib.hid hst; clear hst hxa hlo
          have hosl : os.length ≤ 4294967296 := by have := LO.out; omega
          go_wp2_with (at_builtin; refine wpList_append_own _ rfl _ _ 109 rfl w.heap.size 145 i0 (.int .u64 0) 1 8 Tryz.underlying109 hi0 hz0 hz1 hz2 rfl (by decide) _ _ _ rfl (hown.row.alloc _) ⟨wr.heap.size, 0, none⟩ 1 1 [.int .u64 ((cn + a) % 1000000000 : Nat)] rfl rfl (cell_one_new _ _ _) (us_one (k := .u64) [(cn + a) % 1000000000]) (by unfold maxLen; omega) (by omega) (by have := hbel.size; simp; omega) ?_; intro v' w1 hown' hgrow _)
          have hb1 : Below w.heap.size w w1 := (hbel.alloc hbel.size _).grown hgrow (by have := hbel.size; simp; omega) (own_base' hown)
          have ho1 : Own .u64 145 w1 w.heap.size v' (os ++ [(cn + a) % 1000000000]) := Own.snoc hown'
          clear hown' hgrow hown hbel
          go_wp2
          go_roundw
          case rel => exact ⟨k + 1, _, _, by omega, by go_num, by first | rfl | go_num, ho1, HS.out, hb1⟩
          case measure => simp [intOf] <;> omega
      · have hkk : k = xs.length := by omega
        have hfin := hinv.fin (by decide) hkk.symm (by omega)
        rw [← HP.out] at hfin
        have hosl : os.length ≤ 4294967296 := by omega
        have HF := Lib.hid hfin; clear hfin hkk hlo
        go_wp2_with (first
          | (at_builtin; refine wpList_append_own _ rfl _ _ 109 rfl w.heap.size 145 i0 (.int .u64 0) 1 8 Tryz.underlying109 hi0 hz0 hz1 hz2 rfl (by decide) _ _ _ rfl (hown.row.alloc _) ⟨wr.heap.size, 0, none⟩ 1 1 [.int .u64 (cn : Nat)] rfl rfl (cell_one_new _ _ _) (us_one (k := .u64) [cn]) (by unfold maxLen; omega) (by omega) (by have := hbel.size; simp; omega) ?_; intro v' w1 hown' hgrow _; have hb1 : Below w.heap.size w w1 := (hbel.alloc hbel.size _).grown hgrow (by have := hbel.size; simp; omega) (own_base' hown); have ho1 : Own .u64 145 w1 w.heap.size v' (os ++ [cn]) := Own.snoc hown'; clear hown' hgrow; obtain ⟨A1, c1, rfl, hU⟩ := ho1.form' (n := os.length + 1) (by simp))
          | (go_at_call 109; refine (trim_any A1 _ c1 _ _ hU (by omega)).mono ?_; rintro e w' ⟨rfl, rfl⟩))
        go_ret
        have hT := hU.trim
        rw [HF.out] at hT
        exact ⟨⟨A1, _, c1, by rw [HF.out]; rfl, hT⟩, hb1⟩

end Go.Proofs.YtgfgpepdkffhbaaGreatDoor.Kl
