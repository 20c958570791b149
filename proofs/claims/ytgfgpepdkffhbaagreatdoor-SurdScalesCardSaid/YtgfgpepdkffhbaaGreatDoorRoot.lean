/- integer.Root. -/
import Derived.Test.YtgfgpepdkffhbaaGreatDoorRootNums
import Derived.Test.YtgfgpepdkffhbaaGreatDoorIntB
namespace Go.Proofs.YtgfgpepdkffhbaaGreatDoor.Kl
open Go.RowKit Go.Shelf
set_option linter.unusedVariables false
set_option linter.unusedSimpArgs false

theorem pcs_one_two : pcs 1000000000 2 = [2] := by
  rw [pcs_one (by decide), show [2] = ([] : List Nat) ++ [2] from rfl, trimL_snoc_pos _ (by omega)]
theorem own_made {w : World} {base N : Nat} {e : TypeId} {v : Value} (h : w.ownsRow base e 1 v N (madeCells (Value.int IntKind.u64 0).cells (N * 1)).toList) : Own .u64 e w base v (List.replicate N 0) := by
  rw [show (madeCells (Value.int IntKind.u64 0).cells (N * 1)).toList = us .u64 (List.replicate N 0) by
    rw [Nat.mul_one]; exact (toList_madeCells_one _ _).trans (by simp [us])] at h
  unfold Own
  rw [List.length_replicate]; exact h

set_option maxRecDepth 100000 in
set_option maxHeartbeats 4000000 in
theorem root_pos (x : Nat) (hx : x ≠ 0) (hm : (Lib.itoa (x : Int)).length ≤ 1000000) (w : World) (hW : Wd w) :
    Calls Tryz.prog 70 #[.string (txt (x : Int))] w fun e w' => e = .returned (.tuple #[.string (txt (isqrt x : Nat)), .int .i64 0]) ∧ Below w.heap.size w w' := by
  obtain ⟨i0, hi0, hz0, hz1, hz2⟩ := info_parts info_u64
  have px := pcs_itoa (x : Int)
  rw [Int.natAbs_natCast] at px
  have hcs := sign_any (x : Int) w
  rw [Int.sign_eq_one_of_pos (by omega)] at hcs
  have hco := open_any (x : Int) w (by omega)
  rw [Int.natAbs_natCast] at hco
  have hfp := field_p (decide ((x : Int) < 0))
  have hlen0 : pcs 1000000000 x ≠ [] := by rw [Ne, pcs_nil_iff (by decide)]; exact hx
  have hlp : 0 < (pcs 1000000000 x).length := List.length_pos_iff.2 hlen0
  have hst := isqrt_start (B := 1000000000) (by decide) (pcs_len_lt (B := 1000000000) (by decide) x)
  have HST := Lib.hid hst; clear hst
  obtain ⟨l, hl⟩ : ∃ l, (pcs 1000000000 x).length = l := ⟨_, rfl⟩
  rw [hl] at HST hlp px
  have hk2 : l ≤ 1000000 := by omega
  clear hlen0
  go_enter Tryz.func70, Tryz.ntmps70
  go_wp2_with (first
    | (with_reducible refine Calls.mono hcs ?_; rintro e w1 ⟨rfl, rfl⟩)
    | (with_reducible refine Calls.mono hco ?_; rintro e w2 ⟨⟨A1, n1, c1, rfl, hU1⟩, hb2⟩; have hn1 : n1 = l := hU1.len.symm.trans hl; subst hn1)
    | (at_make; refine wpList_make_full _ rfl _ _ 109 rfl w2.heap.size 145 i0 (.int .u64 0) 1 Tryz.underlying109 hi0 hz0 hz1 .i64 .i64 _ _ ((n1 + 1) / 2) rfl rfl (by omega) (by omega) (by rw [hz2]; omega) (by unfold maxLen; omega) (Nat.le_refl _) ?_; intro w4 hown4 hgrow4; have hb4 : Below w2.heap.size w2 w4 := (Below.refl _ _).grown hgrow4 (Nat.le_refl _) (by simp); have ho4 := own_made hown4; have hoa := ho4.alloc (.cells #[.int .u64 1] 145); have hUa : IsU .u64 (w4.alloc (.cells #[.int .u64 1] 145)) (w4.alloc (.cells #[.int .u64 1] 145)).heap.size (some ⟨w4.heap.size, 0, none⟩) 1 1 [1] := IsU.of_block (xs := [1]) (heap_alloc_new w4 _) rfl)
    | (at_builtin; refine wpList_append_all _ rfl _ _ 109 rfl w2.heap.size 145 i0 (.int .u64 0) 8 Tryz.underlying109 hi0 hz0 hz1 hz2 rfl .u64 _ (List.replicate ((n1 + 1) / 2) 0) [1] rfl hoa (w4.alloc (.cells #[.int .u64 1] 145)).heap.size 1 1 (some ⟨w4.heap.size, 0, none⟩) rfl hUa (by unfold maxLen; simp; omega) (by simp; omega) (by have := hb4.size; simp; omega) ?_; intro v' w6 hown6 hgrow6))
  have hb6 : Below w2.heap.size w2 w6 := (hb4.alloc hb4.size _).grown hgrow6 (by have := hb4.size; simp; omega) (own_base' hoa)
  obtain ⟨A0, c0, rfl, hU0⟩ := hown6.form' (n := (n1 + 1) / 2 + 1) (by simp)
  rw [← pcs_pow] at hU0
  have HU1 := Lib.hid hU1
  clear hown6 hgrow6 hUa hoa ho4 hown4 hgrow4 hb4 hU1
  go_loopw [5] (fun u wr => ∃ (v : Nat) (A : Option Addr) (m c : Nat), u = .slice A m c ∧ IsU .u64 wr wr.heap.size A m c (pcs 1000000000 v) ∧ RowKit.Hid (isqrt x ≤ v) ∧ 0 < v ∧ m ≤ 1000001 ∧ Below w2.heap.size w2 wr) (fun u wr => worth wr u)
  case atStart => exact ⟨_, A0, _, c0, rfl, hU0, HST, Nat.pow_pos (by decide), by omega, hb6⟩
  case round =>
    obtain ⟨v, A, m, c, rfl, hUv, hge, hv0, hmm, hbel⟩ := hrel
    have hUn := HU1.out.to hbel (Nat.le_refl _)
    have hdv := div_any A1 A n1 m c1 c x v hv0 wr hUn hUv (by omega) (by omega)
    go_wp2_with fail
    with_reducible refine Calls.mono hdv ?_
    rintro e w7 ⟨⟨A3, n3, c3, A4, n4, c4, rfl, hQ, hR⟩, hb7⟩
    have hUv7 := hUv.to hb7 (Nat.le_refl _)
    have hB7 := hbel.trans (hb7.mono hbel.size)
    have hn3 : n3 ≤ 1000001 := len_le hQ (pcs_len_mono (Nat.div_le_self _ _) (by rw [hl]; omega))
    have hpl := plus_any A A3 m n3 c c3 v (x / v) w7 hUv7 hQ (by omega) (by omega)
    go_wp2_with fail
    with_reducible refine Calls.mono hpl ?_
    rintro e w8 ⟨⟨A5, n5, c5, rfl, hS⟩, hb8⟩
    have hUv8 := hUv7.to hb8 (Nat.le_refl _)
    have hB8 := hB7.trans (hb8.mono hB7.size)
    have hn5 : n5 ≤ 1000002 := len_le hS (pcs_add_len (by rw [hUv.len]; exact hmm) (by rw [hQ.len]; exact hn3))
    go_wp2_with fail
    obtain ⟨W9, hW9⟩ : ∃ W9, w8.alloc (.cells #[.int .u64 2] 145) = W9 := ⟨_, rfl⟩
    have hba : Below w8.heap.size w8 W9 := hW9 ▸ (Below.refl _ w8).alloc (Nat.le_refl _) (.cells #[.int .u64 2] 145)
    have htwo : IsU .u64 W9 W9.heap.size (some ⟨w8.heap.size, 0, none⟩) 1 1 (pcs 1000000000 2) := by
      subst hW9
      rw [pcs_one_two]
      exact IsU.of_block (xs := [2]) (heap_alloc_new w8 _) rfl
    have hS9 := hS.to hba (Nat.le_refl _)
    have hUv9 := hUv8.to hba (Nat.le_refl _)
    have hB9 := hB8.trans (hba.mono hB8.size)
    have hdv2 := div_any A5 (some ⟨w8.heap.size, 0, none⟩) n5 1 c5 1 (v + x / v) 2 (by decide) W9 hS9 htwo (by omega) (by decide)
    rw [hW9]
    clear hW9 htwo hba
    with_reducible refine Calls.mono hdv2 ?_
    rintro e w10 ⟨⟨A6, n6, c6, A7, n7, c7, rfl, hY, hR7⟩, hb10⟩
    have hUv10 := hUv9.to hb10 (Nat.le_refl _)
    have hB10 := hB9.trans (hb10.mono hB9.size)
    have hylen : n6 ≤ 1000002 := len_le hY (pcs_len_mono (Nat.div_le_self _ _) (by rw [hS9.len]; exact hn5))
    have hor := order_any A6 A n6 m c6 c ((v + x / v) / 2) v w10 hY hUv10 (by omega) (by omega)
    have hnge := newton_ge (n := x) hv0
    have hnst := newton_stop (n := x) hv0 hge.out
    obtain ⟨y, hy⟩ : ∃ y, (v + x / v) / 2 = y := ⟨_, rfl⟩
    rw [hy] at hY hor hnge hnst
    have HNG := Lib.hid hnge; clear hnge
    clear hy
    by_cases hlt : y < v
    · have hcm : cmpN y v = -1 := if_pos hlt
      rw [hcm] at hor
      clear hcm hnst
      go_wp2_with fail
      with_reducible refine Calls.mono hor ?_
      rintro e w11 ⟨rfl, hb11⟩
      have hY11 := hY.to hb11 (Nat.le_refl _)
      have hB11 := hB10.trans (hb11.mono hB10.size)
      have hy0 : 0 < y := by
        apply Nat.lt_of_lt_of_le _ HNG.out
        exact Nat.pos_of_ne_zero (fun h => hx (isqrt_zero_iff.1 h))
      have hy6 : n6 ≤ 1000001 := by
        have := len_le hY (pcs_len_mono (Nat.le_of_lt hlt) (by rw [hUv.len]; exact hmm))
        exact this
      have w1' := worth_eq hY11
      have w2' := worth_eq hUv
      go_wp2_with fail
      exact ⟨⟨y, A6, n6, c6, rfl, hY11, HNG, hy0, hy6, hB11⟩, by rw [w1', w2']; exact hlt⟩
    · have hv : v = isqrt x := hnst (by omega)
      have h0 : 0 ≤ cmpN y v := by unfold cmpN; rw [if_neg hlt]; split <;> omega
      obtain ⟨z, hz⟩ : ∃ z, cmpN y v = z := ⟨_, rfl⟩
      rw [hz] at hor h0
      clear hz hnst
      go_wp2_with fail
      with_reducible refine Calls.mono hor ?_
      rintro e w11 ⟨rfl, hb11⟩
      have hU11 := hUv10.to hb11 (Nat.le_refl _)
      have hB11 := hB10.trans (hb11.mono hB10.size)
      have hbw := hb2.trans (hB11.mono hb2.size)
      have hzz : (if false then -(v : Int) else (v : Int)) = ((isqrt x : Nat) : Int) := congrArg (fun t : Nat => (t : Int)) hv
      have hcl := close_as false A m c v _ hzz w11 (hW.below hbw) hU11 (by omega)
      clear hv hzz
      go_wp2_with (with_reducible refine Calls.mono hcl ?_; rintro e w12 ⟨rfl, hb12⟩)
      all_goals go_ret2
      all_goals exact ⟨rfl, hbw.trans (hb12.mono hbw.size)⟩

theorem root_zero (w : World) (hW : Wd w) :
    Calls Tryz.prog 70 #[.string (txt 0)] w fun e w' => e = .returned (.tuple #[.string (txt 0), .int .i64 0]) ∧ Below w.heap.size w w' := by
  have hcs := sign_any 0 w
  have hco := open_any 0 w (by rw [show (0 : Int) = ((0 : Nat) : Int) from rfl, itoa_nat, dec_small (by decide)]; decide)
  have hfp := field_p false
  rw [show decide ((0 : Int) < 0) = false from rfl] at hco
  rw [show (0 : Int).sign = 0 from rfl] at hcs
  rw [show (0 : Int).natAbs = 0 from rfl, pcs_zero] at hco
  go_enter Tryz.func70, Tryz.ntmps70
  go_wp2_with (with_reducible refine Calls.mono hcs ?_; rintro e w1 ⟨rfl, rfl⟩)
  with_reducible refine Calls.mono hco ?_
  rintro e w2 ⟨⟨A1, n1, c1, rfl, hU1⟩, hb2⟩
  obtain rfl : n1 = 0 := hU1.len.symm
  go_wp2_with fail
  go_ret2
  exact ⟨by rw [txt_zero]; rfl, hb2⟩

/-- Root of a number that is not negative. -/
theorem root_any (x : Nat) (hm : (Lib.itoa (x : Int)).length ≤ 1000000) (w : World) (hW : Wd w) :
    Calls Tryz.prog 70 #[.string (txt (x : Int))] w fun e w' => e = .returned (.tuple #[.string (txt (isqrt x : Nat)), .int .i64 0]) ∧ Below w.heap.size w w' := by
  by_cases hx : x = 0
  · subst hx; exact root_zero w hW
  · exact root_pos x hx hm w hW
end Go.Proofs.YtgfgpepdkffhbaaGreatDoor.Kl
