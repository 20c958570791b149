/- klippelaw03.SurdRoots: for every number the law answers true. -/
import Derived.Test.YtgfgpepdkffhbaaGreatDoorRow
import Derived.Test.YtgfgpepdkffhbaaGreatDoorKnown
namespace Go.Proofs.YtgfgpepdkffhbaaGreatDoor.Kl
open Go.RowKit Go.Shelf
set_option linter.unusedVariables false
set_option linter.unusedSimpArgs false

/-- the answer of Of and From: a list of terms, and an error. -/
def Ans (ts : List (ByteArray × ByteArray)) (n : Nat) (k : Int) (e : Ending) (w' : World) : Prop := ∃ A c, e = .returned (.tuple #[.slice A n c, .int .i64 k]) ∧ IsT w' w'.heap.size A n c ts
theorem Ans.of_nil {k : Int} {e : Ending} {w' : World} (h : e = .returned (.tuple #[.slice none 0 0, .int .i64 k])) : Ans [] 0 k e w' := ⟨none, 0, h, IsT.nil _ _ _ _⟩
theorem Ans.of_one {t : ByteArray × ByteArray} {k : Int} {e : Ending} {w' : World} (h : ∃ A, e = .returned (.tuple #[.slice A 1 1, .int .i64 k]) ∧ IsT w' w'.heap.size A 1 1 [t]) : Ans [t] 1 k e w' := by
  obtain ⟨A, h1, h2⟩ := h; exact ⟨A, 1, h1, h2⟩

/-- the program's Of and the reference's answer alike. -/
def Alike (s : ByteArray) (ts : List (ByteArray × ByteArray)) (n : Nat) (k : Int) : Prop :=
  (∀ w, Wd w → Calls Tryz.prog 9 #[.string s] w fun e w' => Ans ts n k e w' ∧ Below w.heap.size w w') ∧
  (∀ w, Wd w → Calls Tryz.prog 11 #[.string s] w fun e w' => Ans ts n k e w' ∧ Below w.heap.size w w')
theorem alike_neg {q : Rat} (hq : RS q) (hn : q.num < 0) : Alike (rtxt q) [] 0 3 :=
  ⟨fun w hW => (sof_neg q hq hn w hW).mono fun e w' h => ⟨Ans.of_nil h.1, h.2⟩, fun w hW => (rof_neg q hq hn w hW).mono fun e w' h => ⟨Ans.of_nil h.1, h.2⟩⟩
theorem alike_wrong {s : ByteArray} (hs : s.size ≤ 4294967280) (hr : ¬ RightR s.data.toList) : Alike s [] 0 2 :=
  ⟨fun w hW => (sof_wrong s hs hr w hW).mono fun e w' h => ⟨Ans.of_nil h.1, h.2⟩, fun w hW => (rof_wrong s hs hr w hW).mono fun e w' h => ⟨Ans.of_nil h.1, h.2⟩⟩
theorem alike_zero : Alike (rtxt 0) [] 0 0 :=
  ⟨fun w hW => (sof_zero w hW).mono fun e w' h => ⟨Ans.of_nil h.1, h.2⟩, fun w hW => (rof_zero w hW).mono fun e w' h => ⟨Ans.of_nil h.1, h.2⟩⟩
theorem alike_num {q : Rat} (hq : RS q) (h0 : q.num ≠ 0) : ∃ ts n k, n ≤ 1 ∧ Alike (rtxt q) ts n k := by
  rcases Int.lt_or_gt_of_ne h0 with hn | hp
  · exact ⟨_, _, _, by decide, alike_neg hq hn⟩
  · obtain ⟨a, ha⟩ : ∃ a : Nat, q.num = (a : Int) := ⟨q.num.toNat, by omega⟩
    by_cases hsq : isqrt (a * q.den) * isqrt (a * q.den) = a * q.den
    · exact ⟨_, 1, 0, by decide, fun w hW => (sof_square q a ha hq (by omega) hsq w hW).mono fun e w' h => ⟨Ans.of_one h.1, h.2⟩, fun w hW => (rof_square q a ha hq (by omega) hsq w hW).mono fun e w' h => ⟨Ans.of_one h.1, h.2⟩⟩
    · by_cases hd : DL ((a * q.den : Nat) : Int) 200
      · exact ⟨_, 1, 0, by decide, fun w hW => (sof_plain q a ha hq (by omega) hsq w hW).mono fun e w' h => ⟨Ans.of_one (h.1.1 hd), h.2⟩, fun w hW => (rof_plain q a ha hq (by omega) hsq w hW).mono fun e w' h => ⟨Ans.of_one (h.1.1 hd), h.2⟩⟩
      · exact ⟨[], 0, 4, by decide, fun w hW => (sof_plain q a ha hq (by omega) hsq w hW).mono fun e w' h => ⟨Ans.of_nil (h.1.2 hd), h.2⟩, fun w hW => (rof_plain q a ha hq (by omega) hsq w hW).mono fun e w' h => ⟨Ans.of_nil (h.1.2 hd), h.2⟩⟩

theorem same_yes (A A' : Option Addr) (n c c' : Nat) (ts : List (ByteArray × ByteArray)) (w : World) (h : IsT w w.heap.size A n c ts) (h' : IsT w w.heap.size A' n c' ts) (hm : n ≤ 1000000) :
    Calls Tryz.prog 12 #[.slice A n c, .slice A' n c'] w fun e w' => e = .returned (.bool true) ∧ Below w.heap.size w w' := by
  refine (same_any A A' n n c c' ts ts w h h' hm hm).mono ?_
  rintro e w' ⟨h1, h2⟩
  exact ⟨h1.yes rfl, h2⟩

theorem roots_long (s : ByteArray) (hs : 450 < s.size) (w : World) (hW : Wd w) : Calls Tryz.prog 3 #[.string s] w fun e w' => e = .returned (.bool true) ∧ Below w.heap.size w w' := by
  have hd : decide ((450 : Int) < (s.size : Int)) = true := decide_eq_true (by omega)
  have g1 := known_any w hW
  go_enter Tryz.func3, Tryz.ntmps3
  go_wp2_with fail
  with_reducible refine Calls.mono g1 ?_
  rintro e w1 ⟨rfl, hB1⟩
  have g2 := known_any w1 (hW.below hB1)
  go_wp2_with fail
  with_reducible refine Calls.mono g2 ?_
  rintro e w2 ⟨rfl, hb⟩
  go_wp2_with fail
  go_ret
  exact ⟨rfl, hB1.trans (hb.mono hB1.size)⟩

set_option maxRecDepth 100000 in
theorem roots_wrong (S : ByteArray) (hr : ¬ RightR S.data.toList) (hsz : S.size ≤ 450) (w : World) (hW : Wd w) : Calls Tryz.prog 3 #[.string S] w fun e w' => e = .returned (.bool true) ∧ Below w.heap.size w w' := by
  have hd : decide ((450 : Int) < (S.size : Int)) = false := decide_eq_false (by omega)
  have hal := alike_wrong (show S.size ≤ 4294967280 by omega) hr
  have hfr := fun w hW => from_wrong S (by omega) hr w hW
  have hpt := fun w hW => refParts_wrong S (by omega) hr w hW
  have g1 := known_any w hW
  go_enter Tryz.func3, Tryz.ntmps3
  go_wp2_with fail
  with_reducible refine Calls.mono g1 ?_
  rintro e w1 ⟨rfl, hB1⟩
  have g2 := hal.1 w1 (hW.below hB1)
  clear g1
  go_wp2_with fail
  with_reducible refine Calls.mono g2 ?_
  rintro e w2 ⟨⟨A1, c1, rfl, t1⟩, hb⟩
  have hB2 := hB1.trans (hb.mono hB1.size)
  clear hb g2 hB1
  have g3 := hfr w2 (hW.below hB2)
  go_wp2_with fail
  with_reducible refine Calls.mono g3 ?_
  rintro e w3 ⟨rfl, hb⟩
  have hB3 := hB2.trans (hb.mono hB2.size)
  replace t1 := t1.to hb (Nat.le_refl _)
  clear hb g3 hB2
  have g4 := hal.2 w3 (hW.below hB3)
  go_wp2_with fail
  with_reducible refine Calls.mono g4 ?_
  rintro e w4 ⟨⟨A4, c4, rfl, t4⟩, hb⟩
  have hB4 := hB3.trans (hb.mono hB3.size)
  replace t1 := t1.to hb (Nat.le_refl _)
  clear hb g4 hB3
  have g5 := plain_any _ _ _ _ w4 t1 (by omega)
  go_wp2_with fail
  with_reducible refine Calls.mono g5 ?_
  rintro e w5 ⟨⟨A5, c5, rfl, t5⟩, hb⟩
  have hB5 := hB4.trans (hb.mono hB4.size)
  replace t4 := t4.to hb (Nat.le_refl _)
  clear hb g5 hB4 t1
  have g6 := same_yes _ _ _ _ _ _ w5 t5 t4 (by omega)
  go_wp2_with fail
  with_reducible refine Calls.mono g6 ?_
  rintro e w6 ⟨rfl, hb⟩
  have hB6 := hB5.trans (hb.mono hB5.size)
  clear hb g6 hB5 t5 t4
  have g7 := hpt w6 (hW.below hB6)
  go_wp2_with fail
  with_reducible refine Calls.mono g7 ?_
  rintro e w7 ⟨⟨a, b, rfl⟩, hb⟩
  have hB7 := hB6.trans (hb.mono hB6.size)
  clear hb g7 hB6
  go_wp2_with fail
  go_ret
  exact ⟨rfl, hB7⟩

set_option maxRecDepth 100000 in
theorem roots_zero (S : ByteArray) (hS : S = rtxt 0) (hsz : S.size ≤ 450) (w : World) (hW : Wd w) : Calls Tryz.prog 3 #[.string S] w fun e w' => e = .returned (.bool true) ∧ Below w.heap.size w w' := by
  have hd : decide ((450 : Int) < (S.size : Int)) = false := decide_eq_false (by omega)
  have hal := alike_zero
  have hfr := fun w hW => from_zero w hW
  have hpt := fun w hW => refParts_right 0 (DL.two (x := 0) (k := 200) (by decide) (by decide)) (DL.two (x := 1) (k := 200) (by decide) (by decide)) w hW
  have hz := rtxt_is_zero 0
  rw [show decide ((0 : Rat).num = 0) = true from rfl, ← hS] at hz
  rw [← hS] at hal hfr hpt
  clear hS
  have g1 := known_any w hW
  go_enter Tryz.func3, Tryz.ntmps3
  go_wp2_with fail
  with_reducible refine Calls.mono g1 ?_
  rintro e w1 ⟨rfl, hB1⟩
  have g2 := hal.1 w1 (hW.below hB1)
  clear g1
  go_wp2_with fail
  with_reducible refine Calls.mono g2 ?_
  rintro e w2 ⟨⟨A1, c1, rfl, t1⟩, hb⟩
  have hB2 := hB1.trans (hb.mono hB1.size)
  clear hb g2 hB1
  have g3 := hfr w2 (hW.below hB2)
  go_wp2_with fail
  with_reducible refine Calls.mono g3 ?_
  rintro e w3 ⟨rfl, hb⟩
  have hB3 := hB2.trans (hb.mono hB2.size)
  replace t1 := t1.to hb (Nat.le_refl _)
  clear hb g3 hB2
  have g4 := hal.2 w3 (hW.below hB3)
  go_wp2_with fail
  with_reducible refine Calls.mono g4 ?_
  rintro e w4 ⟨⟨A4, c4, rfl, t4⟩, hb⟩
  have hB4 := hB3.trans (hb.mono hB3.size)
  replace t1 := t1.to hb (Nat.le_refl _)
  clear hb g4 hB3
  have g5 := plain_any _ _ _ _ w4 t1 (by omega)
  go_wp2_with fail
  with_reducible refine Calls.mono g5 ?_
  rintro e w5 ⟨⟨A5, c5, rfl, t5⟩, hb⟩
  have hB5 := hB4.trans (hb.mono hB4.size)
  replace t4 := t4.to hb (Nat.le_refl _)
  clear hb g5 hB4 t1
  have g6 := same_yes _ _ _ _ _ _ w5 t5 t4 (by omega)
  go_wp2_with fail
  with_reducible refine Calls.mono g6 ?_
  rintro e w6 ⟨rfl, hb⟩
  have hB6 := hB5.trans (hb.mono hB5.size)
  clear hb g6 hB5 t5 t4
  have g7 := hpt w6 (hW.below hB6)
  go_wp2_with fail
  with_reducible refine Calls.mono g7 ?_
  rintro e w7 ⟨rfl, hb⟩
  have hB7 := hB6.trans (hb.mono hB6.size)
  clear hb g7 hB6
  go_wp2_with fail
  go_ret
  exact ⟨rfl, hB7⟩

set_option maxRecDepth 100000 in
theorem roots_num (q : Rat) (hq : RS q) (h0 : q.num ≠ 0) (ts : List (ByteArray × ByteArray)) (n : Nat) (k : Int) (hn : n ≤ 1) (S : ByteArray) (hS : S = rtxt q) (hal : Alike S ts n k) (hsz : S.size ≤ 450) (w : World) (hW : Wd w) : Calls Tryz.prog 3 #[.string S] w fun e w' => e = .returned (.bool true) ∧ Below w.heap.size w w' := by
  have hd : decide ((450 : Int) < (S.size : Int)) = false := decide_eq_false (by omega)
  have hfr := fun w hW => from_num q hq h0 w hW
  have hpt := fun w hW => refParts_right q hq.1 hq.2 w hW
  have hz := rtxt_is_zero q
  rw [decide_eq_false h0, ← hS] at hz
  rw [← hS] at hfr hpt
  rw [kt1] at hfr
  have hkk : (k != k) = false := by simp
  clear hS hq h0
  have g1 := known_any w hW
  go_enter Tryz.func3, Tryz.ntmps3
  go_wp2_with fail
  with_reducible refine Calls.mono g1 ?_
  rintro e w1 ⟨rfl, hB1⟩
  have g2 := hal.1 w1 (hW.below hB1)
  clear g1
  go_wp2_with fail
  with_reducible refine Calls.mono g2 ?_
  rintro e w2 ⟨⟨A1, c1, rfl, t1⟩, hb⟩
  have hB2 := hB1.trans (hb.mono hB1.size)
  clear hb g2 hB1
  have g3 := hfr w2 (hW.below hB2)
  go_wp2_with fail
  with_reducible refine Calls.mono g3 ?_
  rintro e w3 ⟨⟨A3, rfl, t3⟩, hb⟩
  have hB3 := hB2.trans (hb.mono hB2.size)
  replace t1 := t1.to hb (Nat.le_refl _)
  clear hb g3 hB2
  have g4 := hal.2 w3 (hW.below hB3)
  go_wp2_with fail
  with_reducible refine Calls.mono g4 ?_
  rintro e w4 ⟨⟨A4, c4, rfl, t4⟩, hb⟩
  have hB4 := hB3.trans (hb.mono hB3.size)
  replace t1 := t1.to hb (Nat.le_refl _)
  replace t3 := t3.to hb (Nat.le_refl _)
  clear hb g4 hB3
  have g5 := plain_any _ _ _ _ w4 t1 (by omega)
  go_wp2_with fail
  with_reducible refine Calls.mono g5 ?_
  rintro e w5 ⟨⟨A5, c5, rfl, t5⟩, hb⟩
  have hB5 := hB4.trans (hb.mono hB4.size)
  replace t4 := t4.to hb (Nat.le_refl _)
  replace t3 := t3.to hb (Nat.le_refl _)
  clear hb g5 hB4 t1
  have g6 := same_yes _ _ _ _ _ _ w5 t5 t4 (by omega)
  go_wp2_with fail
  with_reducible refine Calls.mono g6 ?_
  rintro e w6 ⟨rfl, hb⟩
  have hB6 := hB5.trans (hb.mono hB5.size)
  replace t3 := t3.to hb (Nat.le_refl _)
  clear hb g6 hB5 t5 t4
  have g7 := hpt w6 (hW.below hB6)
  go_wp2_with fail
  with_reducible refine Calls.mono g7 ?_
  rintro e w7 ⟨rfl, hb⟩
  have hB7 := hB6.trans (hb.mono hB6.size)
  replace t3 := t3.to hb (Nat.le_refl _)
  clear hb g7 hB6
  have g8 := plain_any _ _ _ _ w7 t3 (by decide)
  go_wp2_with fail
  with_reducible refine Calls.mono g8 ?_
  rintro e w8 ⟨⟨A8, c8, rfl, t8⟩, hb⟩
  have hB8 := hB7.trans (hb.mono hB7.size)
  clear hb g8 hB7 t3
  go_wp2_with fail
  obtain ⟨hb, t9⟩ := lit_new w8 [(S, ⟨#[49]⟩)] 1 rfl 39 #[.string S, .string ⟨#[49]⟩] rfl
  obtain ⟨w9, hX⟩ : ∃ W, w8.alloc (.cells #[.string S, .string ⟨#[49]⟩] 39) = W := ⟨_, rfl⟩
  rw [hX] at hb t9 ⊢
  have hB9 := hB8.trans (hb.mono hB8.size)
  replace t8 := t8.to hb (Nat.le_refl _)
  clear hX hb hB8
  have g9 := same_yes _ _ _ _ _ _ w9 t8 t9 (by decide)
  with_reducible refine Calls.mono g9 ?_
  rintro e w10 ⟨rfl, hb⟩
  have hB10 := hB9.trans (hb.mono hB9.size)
  go_wp2_with fail
  go_ret
  exact ⟨rfl, hB10⟩

theorem roots_any (s : ByteArray) (w : World) (hW : Wd w) : Calls Tryz.prog 3 #[.string s] w fun e w' => e = .returned (.bool true) ∧ Below w.heap.size w w' := by
  rcases Nat.lt_or_ge 450 s.size with hs | hs
  · exact roots_long s hs w hW
  · by_cases hr : RightR s.data.toList
    · obtain ⟨q, e, hq⟩ := hr
      have hS : s = rtxt q := by apply bytes_ext; rw [rtxt_list]; exact e
      by_cases h0 : q.num = 0
      · have := Rat.num_eq_zero.1 h0
        subst this
        exact roots_zero s hS hs w hW
      · obtain ⟨ts, n, k, hn, hal⟩ := alike_num hq h0
        rw [← hS] at hal
        exact roots_num q hq h0 ts n k hn s hS hal hs w hW
    · exact roots_wrong s hr hs w hW
end Go.Proofs.YtgfgpepdkffhbaaGreatDoor.Kl
