/- integer.Sign. -/
import Derived.Test.YtgfgpepdkffhbaaGreatDoorOpen
import Derived.Test.YtgfgpepdkffhbaaGreatDoorClose
namespace Go.Proofs.YtgfgpepdkffhbaaGreatDoor.Kl
open Go.RowKit Go.Shelf
set_option linter.unusedVariables false
set_option linter.unusedSimpArgs false

theorem pref_minus (x : Int) : Lib.hasPrefix (txt x).data.toList [45] = decide (x < 0) := by
  rw [txt_list]
  by_cases hx : x < 0
  · rw [itoa_neg' hx]
    simp [Lib.hasPrefix, hx]
  · rw [itoa_pos' (by omega)]
    have h45 := dec_not45 x.natAbs
    have hne := dec_ne x.natAbs
    match hd : Lib.decDigits x.natAbs, hne with
    | c :: t, _ =>
      have hc : c ≠ 45 := fun e => h45 (by rw [hd, e]; rfl)
      have hc' : ¬ (45 : UInt8) = c := fun e => hc e.symm
      simp [Lib.hasPrefix, hx, hc, hc', List.isPrefixOf]

theorem txt_eq_zero (x : Int) : (txt x = ⟨#[48]⟩) ↔ x = 0 := by
  rw [← txt_zero]
  exact ⟨fun h => txt_inj h, fun h => by rw [h]⟩

theorem sign_any (x : Int) (w : World) :
    Calls Tryz.prog 83 #[.string (txt x)] w fun e w' => e = .returned (.int .i64 x.sign) ∧ w' = w := by
  by_cases hx : x = 0
  · subst hx
    have hz := txt_zero
    rw [hz]
    go_enter Tryz.func83, Tryz.ntmps83
    go_wp2
    go_ret
    exact ⟨rfl, rfl⟩
  · have hz : ((txt x).toList == [48]) = false := by
      rw [ByteArray.toList_eq]
      apply Bool.eq_false_iff.2
      intro h
      have h2 : (txt x).data.toList = [48] := by simpa using h
      exact hx ((txt_eq_zero x).1 (bytes_ext h2))
    have hp := pref_minus x
    have hc := Tryz.strings_HasPrefix (txt x) ⟨#[45]⟩ w
    rw [show (⟨#[45]⟩ : ByteArray).data.toList = [45] from rfl, hp] at hc
    by_cases hn : x < 0
    · rw [decide_eq_true hn] at hc
      go_enter Tryz.func83, Tryz.ntmps83
      go_wp2_with (with_reducible refine Calls.mono hc ?_; rintro e w1 ⟨rfl, rfl⟩)
      go_ret
      exact ⟨by rw [Int.sign_eq_neg_one_of_neg hn]; rfl, rfl⟩
    · rw [decide_eq_false hn] at hc
      go_enter Tryz.func83, Tryz.ntmps83
      go_wp2_with (with_reducible refine Calls.mono hc ?_; rintro e w1 ⟨rfl, rfl⟩)
      go_ret
      exact ⟨by rw [Int.sign_eq_one_of_pos (by omega)]; rfl, rfl⟩

theorem trim_minus (x : Int) : Lib.trimPrefix (txt x).data.toList [45] = Lib.itoa (x.natAbs : Int) := by
  rw [itoa_pos' (by omega), Int.natAbs_natCast, txt_list]
  by_cases hx : x < 0
  · rw [itoa_neg' hx]
    simp [Lib.trimPrefix, Lib.hasPrefix]
  · rw [itoa_pos' (by omega)]
    have h45 := dec_not45 x.natAbs
    have hne := dec_ne x.natAbs
    match hd : Lib.decDigits x.natAbs, hne with
    | c :: t, _ =>
      have hc : c ≠ 45 := fun e => h45 (by rw [hd, e]; rfl)
      have hc' : ¬ (45 : UInt8) = c := fun e => hc e.symm
      simp [Lib.trimPrefix, Lib.hasPrefix, hc, hc', List.isPrefixOf]

theorem abs_any (x : Int) (w : World) :
    Calls Tryz.prog 116 #[.string (txt x)] w fun e w' => e = .returned (.string (txt (x.natAbs : Int))) ∧ w' = w := by
  have hc := Tryz.strings_TrimPrefix (txt x) ⟨#[45]⟩ w
  rw [show (⟨#[45]⟩ : ByteArray).data.toList = [45] from rfl, trim_minus x] at hc
  go_enter Tryz.func116, Tryz.ntmps116
  go_wp2_with (with_reducible refine Calls.mono hc ?_; rintro e w1 ⟨rfl, rfl⟩)
  go_ret
  exact ⟨rfl, rfl⟩

theorem neg_cut {x : Int} (hn : x < 0) : (txt x).extract 1 (txt x).size = txt (-x) := by
  apply bytes_ext
  have hs : (txt x).size = (Lib.itoa x).length := by simp [txt, ByteArray.size]
  have := Lib.extract_data (txt x) 1 (txt x).size
  rw [this, txt_list, txt_list, hs, itoa_neg' hn, itoa_pos' (x := -x) (by omega)]
  simp
theorem neg_put {x : Int} (hn : 0 < x) : (⟨#[45]⟩ : ByteArray) ++ txt x = txt (-x) := by
  apply bytes_ext
  rw [show ((⟨#[45]⟩ : ByteArray) ++ txt x).data.toList = [45] ++ (txt x).data.toList by simp [ByteArray.data_append], txt_list, txt_list, itoa_neg' (x := -x) (by omega), itoa_pos' (x := x) (by omega), Int.natAbs_neg]
  rfl

theorem neg_any (x : Int) (w : World) (hm : (Lib.itoa x).length ≤ 4294967296) :
    Calls Tryz.prog 119 #[.string (txt x)] w fun e w' => e = .returned (.string (txt (-x))) ∧ w' = w := by
  have hc := sign_any x w
  have hs : (txt x).size = (Lib.itoa x).length := by simp [txt, ByteArray.size]
  by_cases hx : x = 0
  · subst hx
    go_enter Tryz.func119, Tryz.ntmps119
    go_wp2_with (with_reducible refine Calls.mono hc ?_; rintro e w1 ⟨rfl, rfl⟩)
    go_ret
    exact ⟨rfl, rfl⟩
  by_cases hn : x < 0
  · rw [Int.sign_eq_neg_one_of_neg hn] at hc
    have hcut := neg_cut hn
    have hlen : (1 : Int) ≤ ((txt x).size : Int) := by
      rw [hs, itoa_neg' hn, List.length_cons]; omega
    go_enter Tryz.func119, Tryz.ntmps119
    go_wp2_with (with_reducible refine Calls.mono hc ?_; rintro e w1 ⟨rfl, rfl⟩)
    go_ret
    exact ⟨by rw [← hcut]; rfl, rfl⟩
  · rw [Int.sign_eq_one_of_pos (by omega)] at hc
    have hput := neg_put (x := x) (by omega)
    have hlen : ¬ 9223372036854775807 < 1 + (txt x).size := by omega
    go_enter Tryz.func119, Tryz.ntmps119
    go_wp2_with (with_reducible refine Calls.mono hc ?_; rintro e w1 ⟨rfl, rfl⟩)
    go_ret
    exact ⟨by rw [← hput]; rfl, rfl⟩
end Go.Proofs.YtgfgpepdkffhbaaGreatDoor.Kl
