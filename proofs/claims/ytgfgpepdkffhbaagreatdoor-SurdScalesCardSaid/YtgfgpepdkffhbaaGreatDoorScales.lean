/- klippelaw03.SurdScales: for every list of parts and every number the law answers true. -/
import Derived.Test.YtgfgpepdkffhbaaGreatDoorScale
namespace Go.Proofs.YtgfgpepdkffhbaaGreatDoor.Kl
open Go.RowKit Go.Shelf
set_option linter.unusedVariables false
set_option linter.unusedSimpArgs false

theorem same_eq (A A' : Option Addr) (n c c' : Nat) (ts : List (ByteArray × ByteArray)) (w : World) (h : IsT w w.heap.size A n c ts) (h' : IsT w w.heap.size A' n c' ts) (hm : n ≤ 1000000) :
    Calls Tryz.prog 12 #[.slice A n c, .slice A' n c'] w fun e w' => e = .returned (.bool true) ∧ Below w.heap.size w w' := by
  refine (same_any A A' n n c c' ts ts w h h' hm hm).mono ?_
  rintro e w' ⟨h1, h2⟩
  exact ⟨h1.yes rfl, h2⟩
theorem rtl_parts_len (q : Rat) : (Lib.itoa q.num).length ≤ (rtl q).length ∧ (q.den ≠ 1 → (Lib.itoa (q.den : Int)).length ≤ (rtl q).length) := by
  unfold rtl jtl
  split
  · rename_i h
    exact ⟨Nat.le_refl _, fun h2 => absurd (by omega) h2⟩
  · simp only [List.length_append, List.length_cons]
    exact ⟨by omega, fun _ => by omega⟩
theorem itoa_dl {x : Int} {k : Nat} (h : (Lib.itoa x).length ≤ k) : DL x k := by
  unfold DL
  by_cases hx : x < 0
  · rw [itoa_neg' hx] at h
    simp at h
    omega
  · rw [itoa_pos' (by omega)] at h
    exact h
theorem short_dl {q : Rat} (h : (rtl q).length ≤ 30) : DL q.num 30 ∧ DL (q.den : Int) 30 := by
  obtain ⟨h1, h2⟩ := rtl_parts_len q
  refine ⟨itoa_dl (by omega), ?_⟩
  by_cases hd : q.den = 1
  · rw [hd]; exact DL.two (by decide) (by decide)
  · exact itoa_dl (Nat.le_trans (h2 hd) h)
theorem qz_mul_rs {z : Int} {r : Nat} (hr : r ∈ radL) (hz : z.natAbs < 10 ^ 100) {q : Rat} (h : (rtl q).length ≤ 30) : RS (qz z r * q) := by
  obtain ⟨h1, h2⟩ := short_dl h
  obtain ⟨_, k1, k5, _⟩ := rad_facts hr
  have hq := q.den_pos
  have e : qz z r * q = Rat.divInt (z * q.num) (((12 * kf r : Nat) : Int) * (q.den : Int)) := by
    have h3 := Rat.divInt_mul_divInt z q.num (d₁ := ((12 * kf r : Nat) : Int)) (d₂ := (q.den : Int))
    rw [Rat.num_divInt_den] at h3
    exact h3
  rw [e]
  refine RS.divInt ?_ ?_ (Int.mul_pos (by omega) (by omega))
  · exact DL.mono (DL.mul (DL.of_lt (k := 100) hz (by decide)) h1 (by decide)) (by decide)
  · exact DL.mono (DL.mul (DL.two (x := ((12 * kf r : Nat) : Int)) (k := 2) (by rw [Int.natAbs_natCast]; omega) (by decide)) h2 (by decide)) (by decide)
theorem made_rs {m : List (Int × Nat)} {i : Nat} (hok : MadeOk i m) (hi : i ≤ 6) {q : Rat} (h : (rtl q).length ≤ 30) : ∀ p ∈ toR m, RS (p.1 * q) := by
  intro p hp
  unfold toR at hp
  rw [List.mem_map] at hp
  obtain ⟨x, hx, rfl⟩ := hp
  refine qz_mul_rs (hok.rad x hx) ?_ h
  have h1 := hok.le x hx
  have h2 : 7 ^ i ≤ 7 ^ 6 := Nat.pow_le_pow_right (by decide) hi
  have h3 : 2400 * 7 ^ 6 < 10 ^ 100 := by decide
  have := Nat.mul_le_mul_left 2400 h2
  omega

theorem scales_long1 (A : Option Addr) (n c : Nat) (s : ByteArray) (hn : 6 < n) (w : World) (hW : Wd w) : Calls Tryz.prog 7 #[.slice A n c, .string s] w fun e w' => e = .returned (.bool true) ∧ Below w.heap.size w w' := by
  have hd : decide ((6 : Int) < (n : Int)) = true := decide_eq_true (by omega)
  have g1 := known_any w hW
  go_enter Tryz.func7, Tryz.ntmps7
  go_wp2_with fail
  with_reducible refine Calls.mono g1 ?_
  rintro e w1 ⟨rfl, hB1⟩
  have g2 := known_any w1 (hW.below hB1)
  go_wp2_with fail
  with_reducible refine Calls.mono g2 ?_
  rintro e w2 ⟨rfl, hb⟩
  go_wp2_with fail
  go_ret
  exact ⟨rfl, hB1.trans (hb.mono hB1.size)⟩

theorem scales_long2 (A : Option Addr) (n c : Nat) (s : ByteArray) (hn : n ≤ 6) (hs : 30 < s.size) (w : World) (hW : Wd w) : Calls Tryz.prog 7 #[.slice A n c, .string s] w fun e w' => e = .returned (.bool true) ∧ Below w.heap.size w w' := by
  have hd : decide ((6 : Int) < (n : Int)) = false := decide_eq_false (by omega)
  have hd2 : decide ((30 : Int) < (s.size : Int)) = true := decide_eq_true (by omega)
  have g1 := known_any w hW
  go_enter Tryz.func7, Tryz.ntmps7
  go_wp2_with fail
  with_reducible refine Calls.mono g1 ?_
  rintro e w1 ⟨rfl, hB1⟩
  have g2 := known_any w1 (hW.below hB1)
  go_wp2_with fail
  with_reducible refine Calls.mono g2 ?_
  rintro e w2 ⟨rfl, hb⟩
  go_wp2_with fail
  go_ret
  exact ⟨rfl, hB1.trans (hb.mono hB1.size)⟩

set_option maxRecDepth 100000 in
theorem scales_wrong (A : Option Addr) (n c : Nat) (ps : List (Int × Nat × Nat)) (hm : n ≤ 6) (s : ByteArray) (hs : s.size ≤ 30) (hr : ¬ RightR s.data.toList) (w : World) (hW : Wd w) (h : IsP w w.heap.size A n c ps) : Calls Tryz.prog 7 #[.slice A n c, .string s] w fun e w' => e = .returned (.bool true) ∧ Below w.heap.size w w' := by
  have hd : decide ((6 : Int) < (n : Int)) = false := decide_eq_false (by omega)
  have hd2 : decide ((30 : Int) < (s.size : Int)) = false := decide_eq_false (by omega)
  have g1 := known_any w hW
  go_enter Tryz.func7, Tryz.ntmps7
  go_wp2_with fail
  with_reducible refine Calls.mono g1 ?_
  rintro e w1 ⟨rfl, hB1⟩
  have g2 := make_is A n c ps w1 (hW.below hB1) (h.to hB1) hm
  have hok := makeZ_ok ps n hm
  generalize makeZ ps n = m at g2 hok
  go_wp2_with fail
  with_reducible refine Calls.mono g2 ?_
  rintro e w2 ⟨⟨A1, c1, rfl, hT⟩, hb⟩
  have hB2 := below_tr hB1 hb
  have hsd := hok.sound
  have hle := hok.len
  obtain ⟨l, hl⟩ : ∃ l, toR m = l := ⟨_, rfl⟩
  obtain ⟨k, hk⟩ : ∃ k, m.length = k := ⟨_, rfl⟩
  rw [hl] at hT hsd
  rw [hk] at hT hle ⊢
  clear g1 g2 hb hB1 h hok hl hk
  have g3 := sscale_wrong A1 k c1 l hsd s (by omega) hr w2 (hW.below hB2) hT (by omega)
  go_wp2_with fail
  with_reducible refine Calls.mono g3 ?_
  rintro e w3 ⟨rfl, hb⟩
  have hB3 := below_tr hB2 hb
  replace hT := hT.to hb (Nat.le_refl _)
  clear g3 hb hB2
  have g4 := refParts_wrong s (by omega) hr w3 (hW.below hB3)
  go_wp2_with fail
  with_reducible refine Calls.mono g4 ?_
  rintro e w4 ⟨⟨a, b, rfl⟩, hb⟩
  have hB4 := below_tr hB3 hb
  replace hT := hT.to hb (Nat.le_refl _)
  clear g4 hb hB3
  go_wp2_with fail
  go_ret
  exact ⟨rfl, hB4⟩

set_option maxRecDepth 100000 in
theorem scales_zero (A : Option Addr) (n c : Nat) (ps : List (Int × Nat × Nat)) (hm : n ≤ 6) (s : ByteArray) (hs : s.size ≤ 30) (hS : s = rtxt 0) (w : World) (hW : Wd w) (h : IsP w w.heap.size A n c ps) : Calls Tryz.prog 7 #[.slice A n c, .string s] w fun e w' => e = .returned (.bool true) ∧ Below w.heap.size w w' := by
  have HS := Lib.hid hS; clear hS
  have hd : decide ((6 : Int) < (n : Int)) = false := decide_eq_false (by omega)
  have hd2 : decide ((30 : Int) < (s.size : Int)) = false := decide_eq_false (by omega)
  have g1 := known_any w hW
  go_enter Tryz.func7, Tryz.ntmps7
  go_wp2_with fail
  with_reducible refine Calls.mono g1 ?_
  rintro e w1 ⟨rfl, hB1⟩
  have g2 := make_is A n c ps w1 (hW.below hB1) (h.to hB1) hm
  have hok := makeZ_ok ps n hm
  generalize makeZ ps n = m at g2 hok
  go_wp2_with fail
  with_reducible refine Calls.mono g2 ?_
  rintro e w2 ⟨⟨A1, c1, rfl, hT⟩, hb⟩
  have hB2 := below_tr hB1 hb
  have hsd := hok.sound
  have hle := hok.len
  obtain ⟨l, hl⟩ : ∃ l, toR m = l := ⟨_, rfl⟩
  obtain ⟨k, hk⟩ : ∃ k, m.length = k := ⟨_, rfl⟩
  rw [hl] at hT hsd
  rw [hk] at hT hle ⊢
  clear g1 g2 hb hB1 h hok hl hk
  have g3 := sscale_zero A1 k c1 l hsd w2 (hW.below hB2) hT (by omega)
  rw [← HS.out] at g3
  go_wp2_with fail
  with_reducible refine Calls.mono g3 ?_
  rintro e w3 ⟨rfl, hb⟩
  have hB3 := below_tr hB2 hb
  replace hT := hT.to hb (Nat.le_refl _)
  clear g3 hb hB2
  have g4 := refParts_right 0 (DL.two (x := 0) (k := 200) (by decide) (by decide)) (DL.two (x := 1) (k := 200) (by decide) (by decide)) w3 (hW.below hB3)
  rw [← HS.out] at g4
  go_wp2_with fail
  with_reducible refine Calls.mono g4 ?_
  rintro e w4 ⟨rfl, hb⟩
  have hB4 := below_tr hB3 hb
  replace hT := hT.to hb (Nat.le_refl _)
  clear g4 hb hB3
  have g5 := plain_any none 0 0 [] w4 (IsT.nil _ _ _ _) (by decide)
  go_wp2_with fail
  with_reducible refine Calls.mono g5 ?_
  rintro e w5 ⟨⟨A5, c5, rfl, hT5⟩, hb⟩
  have hB5 := below_tr hB4 hb
  replace hT := hT.to hb (Nat.le_refl _)
  clear g5 hb hB4
  have g6 := plain_any A1 k c1 (tb l) w5 hT (by omega)
  go_wp2_with fail
  with_reducible refine Calls.mono g6 ?_
  rintro e w6 ⟨⟨A6, c6, rfl, hT6⟩, hb⟩
  have hB6 := below_tr hB5 hb
  replace hT5 := hT5.to hb (Nat.le_refl _)
  clear g6 hb hB5 hT
  have g7 := scaled_zero A6 k c6 w6 (by omega)
  rw [← HS.out] at g7
  go_wp2_with fail
  with_reducible refine Calls.mono g7 ?_
  rintro e w7 ⟨rfl, hb⟩
  have hB7 := below_tr hB6 hb
  replace hT5 := hT5.to hb (Nat.le_refl _)
  clear g7 hb hB6 hT6
  have g8 := same_eq A5 none 0 c5 0 [] w7 hT5 (IsT.nil _ _ _ _) (by decide)
  go_wp2_with fail
  with_reducible refine Calls.mono g8 ?_
  rintro e w8 ⟨rfl, hb⟩
  have hB8 := below_tr hB7 hb
  go_wp2_with fail
  go_ret
  exact ⟨rfl, hB8⟩

set_option maxRecDepth 100000 in
theorem scales_num (A : Option Addr) (n c : Nat) (ps : List (Int × Nat × Nat)) (hm : n ≤ 6) (s : ByteArray) (hs : s.size ≤ 30) (q : Rat) (hq : RS q) (h0 : q.num ≠ 0) (hS : s = rtxt q) (w : World) (hW : Wd w) (h : IsP w w.heap.size A n c ps) : Calls Tryz.prog 7 #[.slice A n c, .string s] w fun e w' => e = .returned (.bool true) ∧ Below w.heap.size w w' := by
  have HS := Lib.hid hS; clear hS
  have hd : decide ((6 : Int) < (n : Int)) = false := decide_eq_false (by omega)
  have hd2 : decide ((30 : Int) < (s.size : Int)) = false := decide_eq_false (by omega)
  have g1 := known_any w hW
  go_enter Tryz.func7, Tryz.ntmps7
  go_wp2_with fail
  with_reducible refine Calls.mono g1 ?_
  rintro e w1 ⟨rfl, hB1⟩
  have g2 := make_is A n c ps w1 (hW.below hB1) (h.to hB1) hm
  have hok := makeZ_ok ps n hm
  generalize makeZ ps n = m at g2 hok
  go_wp2_with fail
  with_reducible refine Calls.mono g2 ?_
  rintro e w2 ⟨⟨A1, c1, rfl, hT⟩, hb⟩
  have hB2 := below_tr hB1 hb
  have hsd := hok.sound
  have hle := hok.len
  have hrs := made_rs hok hm (q := q) (by rw [← rtxt_size, ← HS.out]; exact hs)
  obtain ⟨l, hl⟩ : ∃ l, toR m = l := ⟨_, rfl⟩
  obtain ⟨k, hk⟩ : ∃ k, m.length = k := ⟨_, rfl⟩
  rw [hl] at hT hsd hrs
  rw [hk] at hT hle ⊢
  clear g1 g2 hb hB1 h hok hl hk
  have g3 := sscale_any A1 k c1 l hsd q w2 (hW.below hB2) hT (by omega) hq h0 hrs
  rw [← HS.out] at g3
  go_wp2_with fail
  with_reducible refine Calls.mono g3 ?_
  rintro e w3 ⟨⟨A3, c3, rfl, hT3⟩, hb⟩
  have hB3 := below_tr hB2 hb
  replace hT := hT.to hb (Nat.le_refl _)
  clear g3 hb hB2
  have g4 := refParts_right q hq.1 hq.2 w3 (hW.below hB3)
  rw [← HS.out] at g4
  go_wp2_with fail
  with_reducible refine Calls.mono g4 ?_
  rintro e w4 ⟨rfl, hb⟩
  have hB4 := below_tr hB3 hb
  replace hT := hT.to hb (Nat.le_refl _)
  replace hT3 := hT3.to hb (Nat.le_refl _)
  clear g4 hb hB3
  have g5 := plain_any A3 k c3 (tb (timesL l q)) w4 hT3 (by omega)
  go_wp2_with fail
  with_reducible refine Calls.mono g5 ?_
  rintro e w5 ⟨⟨A5, c5, rfl, hT5⟩, hb⟩
  have hB5 := below_tr hB4 hb
  replace hT := hT.to hb (Nat.le_refl _)
  clear g5 hb hB4 hT3
  have g6 := plain_any A1 k c1 (tb l) w5 hT (by omega)
  go_wp2_with fail
  with_reducible refine Calls.mono g6 ?_
  rintro e w6 ⟨⟨A6, c6, rfl, hT6⟩, hb⟩
  have hB6 := below_tr hB5 hb
  replace hT5 := hT5.to hb (Nat.le_refl _)
  clear g6 hb hB5 hT
  have g7 := scaled_any A6 k c6 l q w6 (hW.below hB6) hT6 (by omega) hq h0 (fun p hp => (hsd.1 p hp).1)
  rw [← HS.out] at g7
  go_wp2_with fail
  with_reducible refine Calls.mono g7 ?_
  rintro e w7 ⟨⟨A7, c7, rfl, hT7⟩, hb⟩
  have hB7 := below_tr hB6 hb
  replace hT5 := hT5.to hb (Nat.le_refl _)
  clear g7 hb hB6 hT6
  have g8 := same_eq A5 A7 k c5 c7 (tb (timesL l q)) w7 hT5 hT7 (by omega)
  go_wp2_with fail
  with_reducible refine Calls.mono g8 ?_
  rintro e w8 ⟨rfl, hb⟩
  have hB8 := below_tr hB7 hb
  go_wp2_with fail
  go_ret
  exact ⟨rfl, hB8⟩

theorem scales_any (A : Option Addr) (n c : Nat) (ps : List (Int × Nat × Nat)) (s : ByteArray) (w : World) (hW : Wd w) (h : IsP w w.heap.size A n c ps) : Calls Tryz.prog 7 #[.slice A n c, .string s] w fun e w' => e = .returned (.bool true) ∧ Below w.heap.size w w' := by
  by_cases hn : n ≤ 6
  · by_cases hs : s.size ≤ 30
    · by_cases hr : RightR s.data.toList
      · obtain ⟨q, e, hq⟩ := hr
        have hS : s = rtxt q := by apply bytes_ext; rw [rtxt_list]; exact e
        by_cases h0 : q.num = 0
        · have := Rat.num_eq_zero.1 h0
          subst this
          exact scales_zero A n c ps hn s hs hS w hW h
        · exact scales_num A n c ps hn s hs q hq h0 hS w hW h
      · exact scales_wrong A n c ps hn s hs hr w hW h
    · exact scales_long2 A n c s hn (by omega) w hW
  · exact scales_long1 A n c s (by omega) w hW
end Go.Proofs.YtgfgpepdkffhbaaGreatDoor.Kl
