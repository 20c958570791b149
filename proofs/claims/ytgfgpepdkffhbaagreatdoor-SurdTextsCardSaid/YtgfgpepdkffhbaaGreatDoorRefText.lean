/- klipperef03.Text. -/
import Derived.Test.YtgfgpepdkffhbaaGreatDoorSurdText
namespace Go.Proofs.YtgfgpepdkffhbaaGreatDoor.Kl
open Go.RowKit Go.Shelf
set_option linter.unusedVariables false
set_option linter.unusedSimpArgs false

theorem body_ne {q : Rat} {r : Nat} : bodyT q r ≠ [] := by
  unfold bodyT
  split
  · obtain ⟨c, t, h, _⟩ := rtl_head (absR q)
    rw [h]; simp
  · split <;> simp
theorem textTo_ne {l : List (Rat × Nat)} {k : Nat} (hk : 0 < k) (hl : k ≤ l.length) : textTo l k ≠ [] := by
  match k, hk with
  | k + 1, _ =>
    rw [textTo_succ (p := l[k]'(by omega)) (List.getElem?_eq_getElem _)]
    intro h
    rw [List.append_eq_nil_iff] at h
    exact body_ne h.2
/-- the text so far. -/
def TextIs (l : List (Rat × Nat)) (k : Nat) (O : ByteArray) : Prop := O.data.toList = textTo l k
theorem bytes_app (a b : ByteArray) : (a ++ b).data.toList = a.data.toList ++ b.data.toList := by simp

set_option maxRecDepth 100000 in
set_option maxHeartbeats 4000000 in
theorem rtext_any (A : Option Addr) (n c : Nat) (l : List (Rat × Nat)) (hl : Terms l) (w : World) (h : IsT w w.heap.size A n c (tb l)) (hm : n ≤ 1000) :
    Calls Tryz.prog 23 #[.slice A n c] w fun e w' => e = .returned (.string ⟨(if n = 0 then [48] else textTo l n).toArray⟩) ∧ Below w.heap.size w w' := by
  have hln : l.length = n := by have := h.len; rw [tb_length] at this; exact this
  have HLN := Lib.hid hln; clear hln
  have HL := Lib.hid hl; clear hl
  have HH := Lib.hid h; clear h
  obtain ⟨RT, hRT⟩ : ∃ T : ByteArray, (⟨(if n = 0 then [48] else textTo l n).toArray⟩ : ByteArray) = T := ⟨_, rfl⟩
  rw [hRT]
  have HRT := Lib.hid hRT
  clear hRT
  go_enter Tryz.func23, Tryz.ntmps23
  go_wp2_with fail
  go_loopw [3, 4] (fun o iv wr => ∃ (O : ByteArray) (k : Nat), Value.string O = o ∧ iv = .int .i64 (k : Int) ∧ k ≤ n ∧ TextIs l k O ∧ Below w.heap.size w wr) (fun _ iv _ => n - (intOf iv).toNat)
  case atStart => exact ⟨⟨#[]⟩, 0, rfl, rfl, Nat.zero_le _, rfl, Below.refl _ _⟩
  case round =>
    obtain ⟨O, k, rfl, rfl, hk, hO, hbel⟩ := hrel
    by_cases hkn : k < n
    · obtain ⟨ad, t, rfl, hb, htk, hc1, hc2⟩ := (HH.out.below hbel).at_ hkn
      obtain ⟨p, hp, rfl⟩ := tb_get htk
      rw [add_next] at hc2
      have hst := HL.out p (List.mem_of_getElem? hp)
      have htn := textTo_succ hp
      have hoz : O.size ≤ 2000000 := by
        rw [Lib.size_eq, hO]
        have h1 := textTo_len l HL.out k
        have h2 : k * 1003 ≤ 1000 * 1003 := Nat.mul_le_mul_right _ (by omega)
        omega
      have HO := Lib.hid hO
      have HTN := Lib.hid htn
      have hra := rtl_abs hst.1
      have hri := hst.2.itoa
      have hone : ((txt (p.2 : Int)).toList == [49]) = decide (p.2 = 1) := by
        rw [txt_is_one]
        by_cases h : p.2 = 1
        · rw [h]; rfl
        · rw [decide_eq_false h, decide_eq_false (by omega)]
      have hfl : (rtxt p.1).data.toList = rtl p.1 := rtxt_list _
      have hil : (txt (p.2 : Int)).data.toList = Lib.itoa (p.2 : Int) := txt_list _
      have hal : (rtxt (absR p.1)).data.toList = rtl (absR p.1) := rtxt_list _
      have hs1 : ((rtxt (absR p.1)).toList == [49]) = decide (rtl (absR p.1) = [49]) := by
        rw [ByteArray.toList_eq, rtxt_list]
        by_cases h : rtl (absR p.1) = [49]
        · rw [h]; rfl
        · rw [decide_eq_false h]; simpa using h
      obtain ⟨c0, t0, hh0, hh1⟩ := rtl_head p.1
      have hnon : ¬ p.1.num < 0 → rtxt p.1 = rtxt (absR p.1) := fun h => by unfold absR; rw [if_neg h]
      obtain ⟨FB, hFB⟩ : ∃ S, rtxt p.1 = S := ⟨_, rfl⟩
      rw [hFB] at hfl hc1 hnon
      have hpos : 0 < FB.size := by rw [Lib.size_eq, hfl, hh0]; simp
      obtain ⟨hi0, hu0⟩ := byte_at (s := FB) rfl (i := 0) (u := c0) (by rw [hfl, hh0]; rfl)
      have hneg : p.1.num < 0 → FB.extract 1 FB.size = rtxt (absR p.1) := by
        intro hn
        apply bytes_ext
        have := Lib.extract_data FB 1 FB.size
        rw [this, Lib.size_eq, hfl, hal, rtl_neg hn]
        unfold absR
        rw [if_pos hn]
        simp
      have hbody : bodyT p.1 p.2 = if p.2 = 1 then rtl (absR p.1) else if rtl (absR p.1) = [49] then [115, 113, 114, 116, 40] ++ Lib.itoa (p.2 : Int) ++ [41] else rtl (absR p.1) ++ [32, 115, 113, 114, 116, 40] ++ Lib.itoa (p.2 : Int) ++ [41] := rfl
      have hsign : signT (k == 0) p.1 = if p.1.num < 0 then (if (k == 0) = true then [45] else [32, 45, 32]) else (if (k == 0) = true then [] else [32, 43, 32]) := rfl
      have HBY := Lib.hid hbody
      have HSG := Lib.hid hsign
      obtain ⟨S, hS⟩ : ∃ S, rtl (absR p.1) = S := ⟨_, rfl⟩
      obtain ⟨SB, hSB⟩ : ∃ S, rtxt (absR p.1) = S := ⟨_, rfl⟩
      obtain ⟨IB, hIB⟩ : ∃ S, txt (p.2 : Int) = S := ⟨_, rfl⟩
      obtain ⟨I, hI⟩ : ∃ S, Lib.itoa (p.2 : Int) = S := ⟨_, rfl⟩
      obtain ⟨SG, hSG⟩ : ∃ S, signT (k == 0) p.1 = S := ⟨_, rfl⟩
      obtain ⟨BD, hBD⟩ : ∃ S, bodyT p.1 p.2 = S := ⟨_, rfl⟩
      rw [hS] at HBY hal hs1 hra
      rw [hSB] at hal hs1 hneg hnon
      rw [hIB] at hone hc2 hil
      rw [hI] at hil HBY hri
      rw [hSG] at HTN HSG
      rw [hBD] at HTN HBY
      have hsz2 : SB.size ≤ 500 := by rw [Lib.size_eq, hal]; exact hra
      have hsz3 : IB.size ≤ 201 := by rw [Lib.size_eq, hil]; exact hri
      have HAL := Lib.hid hal
      have HIL := Lib.hid hil
      clear hO htn hfl hFB hSB hil hal hbody hsign hS hIB hI hSG hBD hst htk hp
      have hk1 : k + 1 ≤ n := hkn
      by_cases hn : p.1.num < 0
      · have hcut := hneg hn
        have hc0 : (c0.toNat : Int) = 45 := by rw [hh1.2 hn]; rfl
        have HG1 := HSG.out
        rw [if_pos hn] at HG1
        have hsz1 : (1 : Int) ≤ (FB.size : Int) := by omega
        clear hn hneg hnon hh0 hh1 HSG
        rcases Nat.eq_zero_or_pos k with hk0 | hk0
        · subst hk0
          rw [if_pos (by decide)] at HG1
          have HSG := Lib.hid HG1
          clear HG1
          rw [Nat.zero_mul, show ad.add 0 = ad by simp [Addr.add]] at hc1 hc2
          by_cases hr1 : p.2 = 1
          · rw [decide_eq_true hr1] at hone
            have HB1 := HBY.out
            rw [if_pos hr1] at HB1
            have HB := Lib.hid HB1
            clear HB1 HBY hr1 hs1
            go_wp2_with fail
            refine ⟨⟨_, 1, rfl, rfl, hk1, ?_, hbel⟩, by simp [intOf]; omega⟩
            have e1 := HTN.out
            have e0 : O.data.toList = _ := HO.out
            unfold TextIs
            rw [e1, HSG.out, HB.out, ← e0, ← HAL.out]
            simp
          · rw [decide_eq_false hr1] at hone
            have HB1 := HBY.out
            rw [if_neg hr1] at HB1
            clear HBY hr1
            by_cases hs49 : S = [49]
            · rw [if_pos hs49] at HB1
              rw [decide_eq_true hs49] at hs1
              have HB := Lib.hid HB1
              clear HB1 hs49
              go_wp2_with fail
              refine ⟨⟨_, 1, rfl, rfl, hk1, ?_, hbel⟩, by simp [intOf]; omega⟩
              have e1 := HTN.out
              have e0 : O.data.toList = _ := HO.out
              unfold TextIs
              rw [e1, HSG.out, HB.out, ← e0, ← HIL.out]
              simp
            · rw [if_neg hs49] at HB1
              rw [decide_eq_false hs49] at hs1
              have HB := Lib.hid HB1
              clear HB1 hs49
              go_wp2_with fail
              refine ⟨⟨_, 1, rfl, rfl, hk1, ?_, hbel⟩, by simp [intOf]; omega⟩
              have e1 := HTN.out
              have e0 : O.data.toList = _ := HO.out
              unfold TextIs
              rw [e1, HSG.out, HB.out, ← e0, ← HAL.out, ← HIL.out]
              simp
        · have hkb : ((k : Int) == 0) = false := by simp; omega
          have hkd : decide ((k : Int) = 0) = false := by simp; omega
          have hkg : decide (0 < k) = true := decide_eq_true hk0
          rw [if_neg (by simp; omega)] at HG1
          have HSG := Lib.hid HG1
          clear HG1
          by_cases hr1 : p.2 = 1
          · rw [decide_eq_true hr1] at hone
            have HB1 := HBY.out
            rw [if_pos hr1] at HB1
            have HB := Lib.hid HB1
            clear HB1 HBY hr1 hs1
            go_wp2_with fail
            refine ⟨⟨_, k + 1, rfl, by congr 1, hk1, ?_, hbel⟩, by simp [intOf]; omega⟩
            have e1 := HTN.out
            have e0 : O.data.toList = _ := HO.out
            unfold TextIs
            rw [e1, HSG.out, HB.out, ← e0, ← HAL.out]
            simp
          · rw [decide_eq_false hr1] at hone
            have HB1 := HBY.out
            rw [if_neg hr1] at HB1
            clear HBY hr1
            by_cases hs49 : S = [49]
            · rw [if_pos hs49] at HB1
              rw [decide_eq_true hs49] at hs1
              have HB := Lib.hid HB1
              clear HB1 hs49
              go_wp2_with fail
              refine ⟨⟨_, k + 1, rfl, by congr 1, hk1, ?_, hbel⟩, by simp [intOf]; omega⟩
              have e1 := HTN.out
              have e0 : O.data.toList = _ := HO.out
              unfold TextIs
              rw [e1, HSG.out, HB.out, ← e0, ← HIL.out]
              simp
            · rw [if_neg hs49] at HB1
              rw [decide_eq_false hs49] at hs1
              have HB := Lib.hid HB1
              clear HB1 hs49
              go_wp2_with fail
              refine ⟨⟨_, k + 1, rfl, by congr 1, hk1, ?_, hbel⟩, by simp [intOf]; omega⟩
              have e1 := HTN.out
              have e0 : O.data.toList = _ := HO.out
              unfold TextIs
              rw [e1, HSG.out, HB.out, ← e0, ← HAL.out, ← HIL.out]
              simp
      · have hab := hnon hn
        have hc0 : ¬ (c0.toNat : Int) = 45 := fun h => hn (hh1.1 (by apply UInt8.toNat_inj.1; show c0.toNat = 45; omega))
        have hc0b : ((c0.toNat : Int) == 45) = false := by simpa using hc0
        have HG1 := HSG.out
        rw [if_neg hn] at HG1
        subst hab
        clear hn hneg hnon hh0 hh1 HSG
        rcases Nat.eq_zero_or_pos k with hk0 | hk0
        · subst hk0
          rw [if_pos (by decide)] at HG1
          have HSG := Lib.hid HG1
          clear HG1
          rw [Nat.zero_mul, show ad.add 0 = ad by simp [Addr.add]] at hc1 hc2
          by_cases hr1 : p.2 = 1
          · rw [decide_eq_true hr1] at hone
            have HB1 := HBY.out
            rw [if_pos hr1] at HB1
            have HB := Lib.hid HB1
            clear HB1 HBY hr1 hs1
            go_wp2_with fail
            refine ⟨⟨_, 1, rfl, rfl, hk1, ?_, hbel⟩, by simp [intOf]; omega⟩
            have e1 := HTN.out
            have e0 : O.data.toList = _ := HO.out
            unfold TextIs
            rw [e1, HSG.out, HB.out, ← e0, ← HAL.out]
            simp
          · rw [decide_eq_false hr1] at hone
            have HB1 := HBY.out
            rw [if_neg hr1] at HB1
            clear HBY hr1
            by_cases hs49 : S = [49]
            · rw [if_pos hs49] at HB1
              rw [decide_eq_true hs49] at hs1
              have HB := Lib.hid HB1
              clear HB1 hs49
              go_wp2_with fail
              refine ⟨⟨_, 1, rfl, rfl, hk1, ?_, hbel⟩, by simp [intOf]; omega⟩
              have e1 := HTN.out
              have e0 : O.data.toList = _ := HO.out
              unfold TextIs
              rw [e1, HSG.out, HB.out, ← e0, ← HIL.out]
              simp
            · rw [if_neg hs49] at HB1
              rw [decide_eq_false hs49] at hs1
              have HB := Lib.hid HB1
              clear HB1 hs49
              go_wp2_with fail
              refine ⟨⟨_, 1, rfl, rfl, hk1, ?_, hbel⟩, by simp [intOf]; omega⟩
              have e1 := HTN.out
              have e0 : O.data.toList = _ := HO.out
              unfold TextIs
              rw [e1, HSG.out, HB.out, ← e0, ← HAL.out, ← HIL.out]
              simp
        · have hkb : ((k : Int) == 0) = false := by simp; omega
          have hkd : decide ((k : Int) = 0) = false := by simp; omega
          have hkg : decide (0 < k) = true := decide_eq_true hk0
          rw [if_neg (by simp; omega)] at HG1
          have HSG := Lib.hid HG1
          clear HG1
          by_cases hr1 : p.2 = 1
          · rw [decide_eq_true hr1] at hone
            have HB1 := HBY.out
            rw [if_pos hr1] at HB1
            have HB := Lib.hid HB1
            clear HB1 HBY hr1 hs1
            go_wp2_with fail
            refine ⟨⟨_, k + 1, rfl, by congr 1, hk1, ?_, hbel⟩, by simp [intOf]; omega⟩
            have e1 := HTN.out
            have e0 : O.data.toList = _ := HO.out
            unfold TextIs
            rw [e1, HSG.out, HB.out, ← e0, ← HAL.out]
            simp
          · rw [decide_eq_false hr1] at hone
            have HB1 := HBY.out
            rw [if_neg hr1] at HB1
            clear HBY hr1
            by_cases hs49 : S = [49]
            · rw [if_pos hs49] at HB1
              rw [decide_eq_true hs49] at hs1
              have HB := Lib.hid HB1
              clear HB1 hs49
              go_wp2_with fail
              refine ⟨⟨_, k + 1, rfl, by congr 1, hk1, ?_, hbel⟩, by simp [intOf]; omega⟩
              have e1 := HTN.out
              have e0 : O.data.toList = _ := HO.out
              unfold TextIs
              rw [e1, HSG.out, HB.out, ← e0, ← HIL.out]
              simp
            · rw [if_neg hs49] at HB1
              rw [decide_eq_false hs49] at hs1
              have HB := Lib.hid HB1
              clear HB1 hs49
              go_wp2_with fail
              refine ⟨⟨_, k + 1, rfl, by congr 1, hk1, ?_, hbel⟩, by simp [intOf]; omega⟩
              have e1 := HTN.out
              have e0 : O.data.toList = _ := HO.out
              unfold TextIs
              rw [e1, HSG.out, HB.out, ← e0, ← HAL.out, ← HIL.out]
              simp
    · have hke : k = n := by omega
      subst hke
      by_cases h0 : k = 0
      · subst h0
        have hOe : O = ⟨#[]⟩ := by apply bytes_ext; rw [hO]; rfl
        subst hOe
        have hfin : (⟨#[48]⟩ : ByteArray) = RT := by rw [← HRT.out, if_pos rfl]
        have HFIN := Lib.hid hfin
        clear hO hfin
        go_wp2_with fail
        go_ret
        exact ⟨by rw [← HFIN.out]; rfl, hbel⟩
      · have hne := textTo_ne (l := l) (k := k) (by omega) (by have := HLN.out; omega)
        have hOn : (O.toList == []) = false := by
          rw [ByteArray.toList_eq, hO]
          cases h : textTo l k with
          | nil => exact absurd h hne
          | cons a b => rfl
        have hOm : O.toList ≠ [] := by
          rw [ByteArray.toList_eq, hO]; exact hne
        have hfin : O = RT := by
          rw [← HRT.out, if_neg h0]
          apply bytes_ext; rw [hO]
        have HFIN := Lib.hid hfin
        clear hfin hO hne h0
        go_wp2_with fail
        go_ret
        exact ⟨by rw [← HFIN.out]; rfl, hbel⟩
end Go.Proofs.YtgfgpepdkffhbaaGreatDoor.Kl
