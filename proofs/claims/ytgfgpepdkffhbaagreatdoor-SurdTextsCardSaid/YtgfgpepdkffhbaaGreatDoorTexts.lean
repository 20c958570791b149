/- klippelaw03.SurdTexts: for every list of parts the law answers true. -/
import Derived.Test.YtgfgpepdkffhbaaGreatDoorRationals
import Derived.Test.YtgfgpepdkffhbaaGreatDoorRefText
namespace Go.Proofs.YtgfgpepdkffhbaaGreatDoor.Kl
open Go.RowKit Go.Shelf
set_option linter.unusedVariables false
set_option linter.unusedSimpArgs false

theorem stext_both (A : Option Addr) (n c : Nat) (l : List (Rat × Nat)) (hl : Sound l) (w : World) (hW : Wd w) (h : IsT w w.heap.size A n c (tb l)) (hm : n ≤ 40) :
    Calls Tryz.prog 22 #[.slice A n c] w fun e w' => e = .returned (.tuple #[.string ⟨(if n = 0 then [48] else textTo l n).toArray⟩, .int .i64 0]) ∧ Below w.heap.size w w' := by
  have hln : l.length = n := by have := h.len; rw [tb_length] at this; exact this
  by_cases h0 : n = 0
  · subst h0
    have : l = [] := List.eq_nil_of_length_eq_zero hln
    subst this
    exact stext_nil A c w hW h
  · have := stext_any A n c l hl w hW h (by omega) hm
    rw [hln] at this
    rw [if_neg h0]
    exact this

theorem texts_long (A : Option Addr) (n c : Nat) (hn : 6 < n) (w : World) (hW : Wd w) : Calls Tryz.prog 6 #[.slice A n c] w fun e w' => e = .returned (.bool true) ∧ Below w.heap.size w w' := by
  have hd : decide ((6 : Int) < (n : Int)) = true := decide_eq_true (by omega)
  have g1 := known_any w hW
  go_enter Tryz.func6, Tryz.ntmps6
  go_wp2_with fail
  with_reducible refine Calls.mono g1 ?_
  rintro e w1 ⟨rfl, hB1⟩
  have g2 := known_any w1 (hW.below hB1)
  go_wp2_with fail
  with_reducible refine Calls.mono g2 ?_
  rintro e w2 ⟨rfl, hb⟩
  go_wp2_with fail
  go_ret
  exact ⟨rfl, hB1.trans (hb.mono hB1.size)⟩

set_option maxRecDepth 100000 in
theorem texts_in (A : Option Addr) (n c : Nat) (ps : List (Int × Nat × Nat)) (hm : n ≤ 6) (w : World) (hW : Wd w) (h : IsP w w.heap.size A n c ps) : Calls Tryz.prog 6 #[.slice A n c] w fun e w' => e = .returned (.bool true) ∧ Below w.heap.size w w' := by
  have hd : decide ((6 : Int) < (n : Int)) = false := decide_eq_false (by omega)
  have g1 := known_any w hW
  go_enter Tryz.func6, Tryz.ntmps6
  go_wp2_with fail
  with_reducible refine Calls.mono g1 ?_
  rintro e w1 ⟨rfl, hB1⟩
  have g2 := make_is A n c ps w1 (hW.below hB1) (h.to hB1) hm
  have hok := makeZ_ok ps n hm
  generalize makeZ ps n = m at g2 hok
  go_wp2_with fail
  with_reducible refine Calls.mono g2 ?_
  rintro e w2 ⟨⟨A1, c1, rfl, hT⟩, hb⟩
  have hB2 := below_tr hB1 hb
  have hs := hok.sound
  have hle := hok.len
  obtain ⟨l, hl⟩ : ∃ l, toR m = l := ⟨_, rfl⟩
  obtain ⟨k, hk⟩ : ∃ k, m.length = k := ⟨_, rfl⟩
  rw [hl] at hT hs
  rw [hk] at hT hle ⊢
  clear g1 g2 hb hB1 h hok hl hk
  have g3 := stext_both A1 k c1 l hs w2 (hW.below hB2) hT (by omega)
  obtain ⟨T, hT'⟩ : ∃ T : ByteArray, (⟨(if k = 0 then [48] else textTo l k).toArray⟩ : ByteArray) = T := ⟨_, rfl⟩
  rw [hT'] at g3
  have HTT := Lib.hid hT'
  clear hT'
  go_wp2_with fail
  with_reducible refine Calls.mono g3 ?_
  rintro e w3 ⟨rfl, hb⟩
  have hB3 := below_tr hB2 hb
  replace hT := hT.to hb (Nat.le_refl _)
  clear g3 hb hB2
  have g4 := plain_any A1 k c1 (tb l) w3 hT (by omega)
  go_wp2_with fail
  with_reducible refine Calls.mono g4 ?_
  rintro e w4 ⟨⟨A2, c2, rfl, hT2⟩, hb⟩
  have hB4 := below_tr hB3 hb
  clear g4 hb hB3 hT
  have g5 := rtext_any A2 k c2 l hs.terms w4 hT2 (by omega)
  rw [HTT.out] at g5
  go_wp2_with fail
  with_reducible refine Calls.mono g5 ?_
  rintro e w5 ⟨rfl, hb⟩
  have hB5 := below_tr hB4 hb
  clear g5 hb hB4 hT2
  go_wp2_with fail
  go_ret
  exact ⟨rfl, hB5⟩

theorem texts_any (A : Option Addr) (n c : Nat) (ps : List (Int × Nat × Nat)) (w : World) (hW : Wd w) (h : IsP w w.heap.size A n c ps) : Calls Tryz.prog 6 #[.slice A n c] w fun e w' => e = .returned (.bool true) ∧ Below w.heap.size w w' := by
  by_cases hn : n ≤ 6
  · exact texts_in A n c ps hn w hW h
  · exact texts_long A n c (by omega) w hW
end Go.Proofs.YtgfgpepdkffhbaaGreatDoor.Kl
