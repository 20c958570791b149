/- klippelaw03.SurdRationals: for every list of parts the law answers true. -/
import Derived.Test.YtgfgpepdkffhbaaGreatDoorMake
namespace Go.Proofs.YtgfgpepdkffhbaaGreatDoor.Kl
open Go.RowKit Go.Shelf
set_option linter.unusedVariables false
set_option linter.unusedSimpArgs false

theorem IsP.to {w w' : World} {n c : Nat} {A : Option Addr} {ps : List (Int × Nat × Nat)} (h : IsP w w.heap.size A n c ps) (hb : Below w.heap.size w w') : IsP w' w'.heap.size A n c ps := ⟨h.len, h.cap, (h.reads.below hb).more hb.size, h.fits⟩

theorem rationals_long (A : Option Addr) (n c : Nat) (hn : 6 < n) (w : World) (hW : Wd w) : Calls Tryz.prog 4 #[.slice A n c] w fun e w' => e = .returned (.bool true) ∧ Below w.heap.size w w' := by
  have hd : decide ((6 : Int) < (n : Int)) = true := decide_eq_true (by omega)
  have g1 := known_any w hW
  go_enter Tryz.func4, Tryz.ntmps4
  go_wp2_with fail
  with_reducible refine Calls.mono g1 ?_
  rintro e w1 ⟨rfl, hB1⟩
  have g2 := known_any w1 (hW.below hB1)
  go_wp2_with fail
  with_reducible refine Calls.mono g2 ?_
  rintro e w2 ⟨rfl, hb⟩
  go_wp2_with fail
  go_ret
  exact ⟨rfl, hB1.trans (hb.mono hB1.size)⟩

/-- what the Make of a list gives. -/
def MadeIs (ps : List (Int × Nat × Nat)) (n : Nat) (m : List (Int × Nat)) (e : Ending) (w' : World) : Prop := ∃ A1 c1, e = .returned (.slice A1 m.length c1) ∧ IsT w' w'.heap.size A1 m.length c1 (tb (toR m))
theorem make_is (A : Option Addr) (n c : Nat) (ps : List (Int × Nat × Nat)) (w : World) (hW : Wd w) (h : IsP w w.heap.size A n c ps) (hm : n ≤ 6) :
    Calls Tryz.prog 15 #[.slice A n c] w fun e w' => MadeIs ps n (makeZ ps n) e w' ∧ Below w.heap.size w w' := by
  refine (make_any A n c ps w hW h hm).mono ?_
  rintro e w' ⟨⟨A1, n1, c1, rfl, rfl, hT⟩, hb⟩
  exact ⟨⟨A1, c1, rfl, hT⟩, hb⟩

set_option maxRecDepth 100000 in
theorem rationals_in (A : Option Addr) (n c : Nat) (ps : List (Int × Nat × Nat)) (hm : n ≤ 6) (w : World) (hW : Wd w) (h : IsP w w.heap.size A n c ps) : Calls Tryz.prog 4 #[.slice A n c] w fun e w' => e = .returned (.bool true) ∧ Below w.heap.size w w' := by
  have hd : decide ((6 : Int) < (n : Int)) = false := decide_eq_false (by omega)
  have g1 := known_any w hW
  go_enter Tryz.func4, Tryz.ntmps4
  go_wp2_with fail
  with_reducible refine Calls.mono g1 ?_
  rintro e w1 ⟨rfl, hB1⟩
  have g2 := make_is A n c ps w1 (hW.below hB1) (h.to hB1) hm
  have hok := makeZ_ok ps n hm
  generalize makeZ ps n = m at g2 hok
  go_wp2_with fail
  with_reducible refine Calls.mono g2 ?_
  rintro e w2 ⟨⟨A1, c1, rfl, hT⟩, hb⟩
  have hB2 := below_tr hB1 hb
  have hW2 := hW.below hB2
  have hs := hok.sound
  clear g1 g2 hb hB1 h
  match m, hok, hs, hT with
  | [], _, _, hT =>
    have g3 := srat_nil A1 c1 w2 hW2 hT
    clear hT
    go_wp2_with fail
    with_reducible refine Calls.mono g3 ?_
    rintro e w3 ⟨rfl, hb⟩
    have hB3 := below_tr hB2 hb
    go_wp2_with fail
    go_ret
    exact ⟨rfl, hB3⟩
  | [p], hok, hs, hT =>
    have g3 := srat_one A1 c1 (qz p.1 p.2) p.2 hs w2 hW2 hT
    obtain ⟨ad, t, rfl, hab, htk, hc1, hc2⟩ := hT.at_ (show 0 < 1 by decide)
    cases htk
    have hC : ∀ w', Below w2.heap.size w2 w' → w'.cell? ad = some (.string (rtxt (qz p.1 p.2))) ∧ w'.cell? ⟨ad.block, ad.off + 1, none⟩ = some (.string (txt (p.2 : Int))) := by
      intro w' hb'
      obtain ⟨ad', t', e1, _, htk', d1, d2⟩ := (hT.below hb').at_ (show 0 < 1 by decide)
      cases e1
      cases htk'
      rw [Nat.zero_mul] at d1 d2
      rw [add_next] at d2
      rw [show ad.add 0 = ad by simp [Addr.add]] at d1 d2
      exact ⟨d1, d2⟩
    have HC := Lib.hid hC
    have hone : ((txt (p.2 : Int)).toList == [49]) = decide (p.2 = 1) := by
      rw [txt_is_one]
      by_cases h : p.2 = 1
      · rw [h]; rfl
      · rw [decide_eq_false h, decide_eq_false (by omega)]
    clear hC hc1 hc2 hT hab
    obtain ⟨F, hF⟩ : ∃ F, rtxt (qz p.1 p.2) = F := ⟨_, rfl⟩
    obtain ⟨G, hG⟩ : ∃ F, txt (p.2 : Int) = F := ⟨_, rfl⟩
    rw [hF] at g3
    rw [hF, hG] at HC
    rw [hG] at hone
    clear hF hG hok hs
    by_cases h1 : p.2 = 1
    · rw [if_pos h1] at g3
      rw [decide_eq_true h1] at hone
      clear h1
      go_wp2_with fail
      with_reducible refine Calls.mono g3 ?_
      rintro e w3 ⟨rfl, hb⟩
      have hB3 := below_tr hB2 hb
      obtain ⟨e1, e2⟩ := HC.out w3 hb
      clear hb
      go_wp2_with fail
      go_ret
      exact ⟨rfl, hB3⟩
    · rw [if_neg h1] at g3
      rw [decide_eq_false h1] at hone
      clear h1
      go_wp2_with fail
      with_reducible refine Calls.mono g3 ?_
      rintro e w3 ⟨rfl, hb⟩
      have hB3 := below_tr hB2 hb
      obtain ⟨e1, e2⟩ := HC.out w3 hb
      clear hb
      go_wp2_with fail
      go_ret
      exact ⟨rfl, hB3⟩
  | p :: q :: t, hok, hs, hT =>
    have hle := hok.len
    obtain ⟨n1, hn1⟩ : ∃ k, (p :: q :: t).length = k := ⟨_, rfl⟩
    have hn2 : 2 ≤ n1 := by rw [← hn1]; simp
    rw [hn1] at hT hle
    have g3 := srat_more A1 n1 c1 _ hs hn2 (by omega) w2 hW2 hT
    rw [hn1]
    have e1 : ((n1 : Int) == 0) = false := by simp; omega
    have e2 : ((n1 : Int) == 1) = false := by simp; omega
    have e3 : decide ((n1 : Int) = 0) = false := by simp; omega
    have e4 : decide ((n1 : Int) = 1) = false := by simp; omega
    clear hn1 hT hok hs
    go_wp2_with fail
    with_reducible refine Calls.mono g3 ?_
    rintro e w3 ⟨rfl, hb⟩
    have hB3 := below_tr hB2 hb
    go_wp2_with fail
    go_ret
    exact ⟨rfl, hB3⟩

theorem rationals_any (A : Option Addr) (n c : Nat) (ps : List (Int × Nat × Nat)) (w : World) (hW : Wd w) (h : IsP w w.heap.size A n c ps) : Calls Tryz.prog 4 #[.slice A n c] w fun e w' => e = .returned (.bool true) ∧ Below w.heap.size w w' := by
  by_cases hn : n ≤ 6
  · exact rationals_in A n c ps hn w hW h
  · exact rationals_long A n c (by omega) w hW
end Go.Proofs.YtgfgpepdkffhbaaGreatDoor.Kl
