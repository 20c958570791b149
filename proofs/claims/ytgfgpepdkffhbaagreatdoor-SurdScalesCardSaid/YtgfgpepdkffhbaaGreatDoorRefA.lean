/- klipperef01: Split, Abs, Neg, Sign, Of, Canonical, Right. klipperef01: Small, brief. klipperef01: cut, less. klipperef01: give, made. klipperef01: take. klipperef01: carry, over pieces that may be negative. klipperef01: joined. -/
import Derived.Test.YtgfgpepdkffhbaaGreatDoorRatA
import Derived.Test.YtgfgpepdkffhbaaGreatDoorTrim
import Derived.Test.YtgfgpepdkffhbaaGreatDoorDivNums
namespace Go.Proofs.YtgfgpepdkffhbaaGreatDoor.Kl
open Go.RowKit Go.Shelf
set_option linter.unusedVariables false
set_option linter.unusedSimpArgs false

theorem split_any (s : ByteArray) (hs : s.size ≤ 4294967296) (w : World) :
    Calls Tryz.prog 51 #[.string s] w fun e w' => e = .returned (.tuple #[.bool (Lib.hasPrefix s.data.toList [45]), .string ⟨(Lib.trimPrefix s.data.toList [45]).toArray⟩]) ∧ Below w.heap.size w w' := by
  have hsz := Lib.size_eq s
  rcases hl : s.data.toList with _ | ⟨c, t⟩
  · have h0 : s = ⟨#[]⟩ := by apply bytes_ext; rw [hl]
    subst h0
    simp only [Lib.hasPrefix, Lib.trimPrefix, List.isPrefixOf, List.drop, if_false, Bool.false_eq_true, reduceIte]
    go_enter Tryz.func51, Tryz.ntmps51
    go_wp2
    go_ret2
    exact ⟨rfl, Below.refl _ _⟩
  · have hp : 0 < s.size := by rw [hsz, hl]; simp
    obtain ⟨hi, hu⟩ := byte_at (s := s) rfl (i := 0) (u := c) (by rw [hl]; rfl)
    by_cases hc : c = 45
    · have hpre : Lib.hasPrefix (c :: t) [45] = true := by simp [Lib.hasPrefix, hc]
      have hcut : s.extract 1 s.size = ⟨(Lib.trimPrefix (c :: t) [45]).toArray⟩ := by
        apply bytes_ext
        have := Lib.extract_data s 1 s.size
        rw [this, hsz, hl]
        simp [Lib.trimPrefix, hpre]
      rw [hpre]
      have hc' : (c.toNat : Int) = 45 := by rw [hc]; rfl
      have hone : (1 : Int) ≤ (s.size : Int) := by omega
      obtain ⟨R, hR⟩ : ∃ R : ByteArray, ⟨(Lib.trimPrefix (c :: t) [45]).toArray⟩ = R := ⟨_, rfl⟩
      rw [hR] at hcut ⊢
      clear hR hl hc hsz hpre
      go_enter Tryz.func51, Tryz.ntmps51
      go_wp2
      go_region
      go_wp2
      go_ret2
      exact ⟨by rw [← hcut]; rfl, (Below.refl _ _).drew⟩
    · have hpre : Lib.hasPrefix (c :: t) [45] = false := by
        have : ¬ (45 : UInt8) = c := fun e => hc e.symm
        simp [Lib.hasPrefix, List.isPrefixOf, this]
      have hcut : (⟨(Lib.trimPrefix (c :: t) [45]).toArray⟩ : ByteArray) = s := by
        apply bytes_ext
        rw [hl]
        simp [Lib.trimPrefix, hpre]
      rw [hpre, hcut]
      have hc' : ¬ (c.toNat : Int) = 45 := by
        intro h; exact hc (UInt8.toNat_inj.1 (by rw [show (45 : UInt8).toNat = 45 from rfl]; omega))
      clear hl hc hsz hpre hcut
      go_enter Tryz.func51, Tryz.ntmps51
      go_wp2
      go_ret2
      exact ⟨rfl, Below.refl _ _⟩

theorem split_txt (x : Int) (hx : (Lib.itoa x).length ≤ 4294967296) (w : World) :
    Calls Tryz.prog 51 #[.string (txt x)] w fun e w' => e = .returned (.tuple #[.bool (decide (x < 0)), .string (txt (x.natAbs : Int))]) ∧ Below w.heap.size w w' := by
  have h := split_any (txt x) (by rw [txt_size]; exact hx) w
  rw [pref_minus, trim_minus] at h
  exact h

theorem refAbs_any (x : Int) (hx : (Lib.itoa x).length ≤ 4294967296) (w : World) :
    Calls Tryz.prog 79 #[.string (txt x)] w fun e w' => e = .returned (.string (txt (x.natAbs : Int))) ∧ Below w.heap.size w w' := by
  have hc := split_txt x hx w
  go_enter Tryz.func79, Tryz.ntmps79
  go_wp2_with (with_reducible refine Calls.mono hc ?_; rintro e w1 ⟨rfl, hb1⟩)
  go_ret
  exact ⟨rfl, hb1⟩

theorem refOf_any (x : Int) (h0 : -9223372036854775808 ≤ x) (h1 : x ≤ 9223372036854775807) (w : World) (hW : Wd w) :
    Calls Tryz.prog 21 #[.int .i64 x] w fun e w' => e = .returned (.string (txt x)) ∧ Below w.heap.size w w' := by
  have hc := itoa_any x h0 h1 w hW
  go_enter Tryz.func21, Tryz.ntmps21
  go_wp2_with (with_reducible refine Calls.mono hc ?_; rintro e w1 ⟨rfl, hb1⟩)
  go_ret
  exact ⟨rfl, hb1⟩

theorem refSign_any (x : Int) (hx : (Lib.itoa x).length ≤ 4294967296) (w : World) :
    Calls Tryz.prog 34 #[.string (txt x)] w fun e w' => e = .returned (.int .i64 x.sign) ∧ Below w.heap.size w w' := by
  have hc := split_txt x hx w
  have hz := txt_is_zero x
  by_cases hn : x < 0
  · rw [Int.sign_eq_neg_one_of_neg hn]
    rw [decide_eq_true hn] at hc
    clear hz hn
    go_enter Tryz.func34, Tryz.ntmps34
    go_wp2_with (with_reducible refine Calls.mono hc ?_; rintro e w1 ⟨rfl, hb1⟩)
    go_ret
    exact ⟨rfl, hb1⟩
  · rw [decide_eq_false hn] at hc
    by_cases h0 : x = 0
    · rw [decide_eq_true h0] at hz
      have hs : x.sign = 0 := by rw [h0]; rfl
      rw [hs]
      clear hs h0 hn
      go_enter Tryz.func34, Tryz.ntmps34
      go_wp2_with (with_reducible refine Calls.mono hc ?_; rintro e w1 ⟨rfl, hb1⟩)
      go_ret
      exact ⟨rfl, hb1⟩
    · rw [decide_eq_false h0] at hz
      rw [Int.sign_eq_one_of_pos (by omega)]
      clear h0 hn
      go_enter Tryz.func34, Tryz.ntmps34
      go_wp2_with (with_reducible refine Calls.mono hc ?_; rintro e w1 ⟨rfl, hb1⟩)
      go_ret
      exact ⟨rfl, hb1⟩

theorem refNeg_any (x : Int) (hx : (Lib.itoa x).length ≤ 4294967296) (w : World) :
    Calls Tryz.prog 93 #[.string (txt x)] w fun e w' => e = .returned (.string (txt (-x))) ∧ Below w.heap.size w w' := by
  have hc := split_txt x hx w
  have hz := txt_is_zero x
  by_cases hn : x < 0
  · have hv : txt (x.natAbs : Int) = txt (-x) := by congr 1; omega
    rw [decide_eq_true hn, hv] at hc
    clear hz hn hv
    go_enter Tryz.func93, Tryz.ntmps93
    go_wp2_with (with_reducible refine Calls.mono hc ?_; rintro e w1 ⟨rfl, hb1⟩)
    go_ret
    exact ⟨rfl, hb1⟩
  · rw [decide_eq_false hn] at hc
    by_cases h0 : x = 0
    · rw [decide_eq_true h0] at hz
      have hv : txt (x.natAbs : Int) = txt (-x) := by congr 1; omega
      rw [hv] at hc
      clear h0 hn hv
      go_enter Tryz.func93, Tryz.ntmps93
      go_wp2_with (with_reducible refine Calls.mono hc ?_; rintro e w1 ⟨rfl, hb1⟩)
      go_ret
      exact ⟨rfl, hb1⟩
    · rw [decide_eq_false h0] at hz
      have hv : txt (x.natAbs : Int) = txt x := by congr 1; omega
      rw [hv] at hc
      have hput := neg_put (x := x) (by omega)
      have hsz := txt_size x
      have hlen : ¬ 9223372036854775807 < 1 + (txt x).size := by omega
      clear h0 hn hv
      go_enter Tryz.func93, Tryz.ntmps93
      go_wp2_with (with_reducible refine Calls.mono hc ?_; rintro e w1 ⟨rfl, hb1⟩)
      go_ret
      exact ⟨by rw [← hput]; rfl, hb1⟩

/-- a Boolean is returned: the truth of a statement. -/
def BoolIs (e : Ending) (P : Prop) : Prop := ∃ c : Bool, e = .returned (.bool c) ∧ (P → c = true) ∧ (¬ P → c = false)
theorem BoolIs.yes {e : Ending} {P : Prop} (h : BoolIs e P) (hp : P) : e = .returned (.bool true) := by
  obtain ⟨c, rfl, h1, _⟩ := h; rw [h1 hp]
theorem BoolIs.no {e : Ending} {P : Prop} (h : BoolIs e P) (hp : ¬ P) : e = .returned (.bool false) := by
  obtain ⟨c, rfl, _, h2⟩ := h; rw [h2 hp]
theorem BoolIs.t {P : Prop} (hp : P) : BoolIs (.returned (.bool true)) P := ⟨true, rfl, fun _ => rfl, fun h => absurd hp h⟩
theorem BoolIs.f {P : Prop} (hp : ¬ P) : BoolIs (.returned (.bool false)) P := ⟨false, rfl, fun h => absurd h hp, fun _ => rfl⟩

/-- canonical digits behind a sign. -/
def CanD (m : Bool) (d : List UInt8) : Prop := d ≠ [] ∧ ¬ (d.head? = some 48 ∧ (1 < d.length ∨ m = true)) ∧ AllDg d

set_option maxRecDepth 100000 in
theorem canon_walk (s : ByteArray) (hs : s.size ≤ 4294967296) (m : Bool) (d : List UInt8) (hm : Lib.hasPrefix s.data.toList [45] = m) (hd : Lib.trimPrefix s.data.toList [45] = d) (w : World) :
    Calls Tryz.prog 77 #[.string s] w fun e w' => BoolIs e (CanD m d) ∧ Below w.heap.size w w' := by
  have hc := split_any s hs w
  rw [hm, hd] at hc
  have hsz : (⟨d.toArray⟩ : ByteArray).size = d.length := by simp [ByteArray.size]
  have hdl : d.length ≤ 4294967296 := by
    rw [← hd]
    have := Lib.size_eq s
    unfold Lib.trimPrefix
    split
    · rw [List.length_drop]; omega
    · omega
  clear hm hd hs
  go_enter Tryz.func77, Tryz.ntmps77
  go_wp2_with (with_reducible refine Calls.mono hc ?_; rintro e w1 ⟨rfl, hb1⟩)
  go_loopw [5] (fun v wr => ∃ k : Nat, v = .int .i64 (k : Int) ∧ k ≤ d.length ∧ RowKit.Hid (∀ j c, j < k → d[j]? = some c → IsDg c) ∧ Below w.heap.size w wr) (fun v _ => d.length - (intOf v).toNat)
  case atStart => exact ⟨0, rfl, Nat.zero_le _, fun j c hj => absurd hj (Nat.not_lt_zero _), hb1⟩
  case round =>
    obtain ⟨k, rfl, hk, hall, hbel⟩ := hrel
    by_cases hkl : k < d.length
    · have hltk : k < (⟨d.toArray⟩ : ByteArray).size := by rw [hsz]; exact hkl
      obtain ⟨u, hu⟩ : ∃ u, (⟨d.toArray⟩ : ByteArray)[k]'hltk = u := ⟨_, rfl⟩
      have huk : d[k]? = some u := by
        rw [List.getElem?_eq_getElem hkl, ← hu]; rfl
      have HUK := Lib.hid huk; clear huk
      by_cases hg : IsDg u
      · have hg1 : ¬ (u.toNat : Int) < 48 := by unfold IsDg at hg; omega
        have hg2 : ¬ 57 < (u.toNat : Int) := by unfold IsDg at hg; omega
        have hn : ∀ j c, j < k + 1 → d[j]? = some c → IsDg c := fun j c hj hc => by
          rcases Nat.lt_or_ge j k with h | h
          · exact hall.out j c h hc
          · have : j = k := by omega
            subst this
            rw [HUK.out] at hc; cases hc; exact hg
        have HN := Lib.hid hn; clear hn hg
        go_wp2_with fail
        exact ⟨⟨k + 1, by simp, hkl, HN, hbel⟩, by simp [intOf]; omega⟩
      · have hr : ¬ CanD m d := fun h => hg (h.2.2 u (List.mem_of_getElem? HUK.out))
        have HR := Lib.hid hr; clear hr
        by_cases hg1 : (u.toNat : Int) < 48
        · clear hg
          go_wp2_with fail
          go_ret
          exact ⟨BoolIs.f HR.out, hbel⟩
        · have hg2 : 57 < (u.toNat : Int) := by unfold IsDg at hg; omega
          clear hg
          go_wp2_with fail
          go_ret
          exact ⟨BoolIs.f HR.out, hbel⟩
    · obtain rfl : k = d.length := by omega
      have hallD : AllDg d := fun c hc => by
        obtain ⟨j, hj, e⟩ := List.getElem_of_mem hc
        exact hall.out j c hj (by rw [List.getElem?_eq_getElem hj, e])
      have HA := Lib.hid hallD; clear hallD hall
      by_cases h0 : d = []
      · have hr : ¬ CanD m d := fun h => h.1 h0
        have HR := Lib.hid hr; clear hr
        have hl0 : d.length = 0 := by rw [h0]; rfl
        have hl0' : ((d.length : Int) == 0) = true := by simp [h0]
        clear h0
        go_wp2_with fail
        go_ret
        exact ⟨BoolIs.f HR.out, hbel⟩
      · have hpos : 0 < d.length := List.length_pos_iff.2 h0
        have hl0' : ((d.length : Int) == 0) = false := by simp; exact h0
        have hlt0 : 0 < (⟨d.toArray⟩ : ByteArray).size := by rw [hsz]; exact hpos
        obtain ⟨c, hcc⟩ : ∃ c, (⟨d.toArray⟩ : ByteArray)[0]'hlt0 = c := ⟨_, rfl⟩
        have hhd : d.head? = some c := by
          rw [List.head?_eq_getElem?, List.getElem?_eq_getElem hpos, ← hcc]; rfl
        have HH := Lib.hid hhd; clear hhd
        by_cases h48 : (c.toNat : Int) = 48
        · have hc48 : c = 48 := UInt8.toNat_inj.1 (by rw [show (48 : UInt8).toNat = 48 from rfl]; omega)
          by_cases hb : 1 < d.length ∨ m = true
          · have hr : ¬ CanD m d := fun h => h.2.1 ⟨by rw [HH.out, hc48], hb⟩
            have HR := Lib.hid hr; clear hr hc48 h0
            by_cases hm : m = true
            · subst hm
              go_wp2_with fail
              go_ret
              exact ⟨BoolIs.f HR.out, hbel⟩
            · have h1 : 1 < (d.length : Int) := by rcases hb with h | h; omega; exact absurd h hm
              have hm' : m = false := by cases m; rfl; exact absurd rfl hm
              subst hm'
              clear hb
              go_wp2_with fail
              go_ret
              exact ⟨BoolIs.f HR.out, hbel⟩
          · have hr : CanD m d := ⟨h0, fun h => hb h.2, HA.out⟩
            have HR := Lib.hid hr; clear hr hc48 h0
            have h1 : ¬ 1 < (d.length : Int) := fun h => hb (Or.inl (by omega))
            have hm' : m = false := by cases m; rfl; exact absurd (Or.inr rfl) hb
            subst hm'
            clear hb
            go_wp2_with fail
            go_ret
            exact ⟨BoolIs.t HR.out, hbel⟩
        · have hr : CanD m d := ⟨h0, fun h => h48 (by have := HH.out.symm.trans h.1; cases this; rfl), HA.out⟩
          have HR := Lib.hid hr; clear hr h0
          go_wp2_with fail
          go_ret
          exact ⟨BoolIs.t HR.out, hbel⟩

/-- Right, for any bytes. -/
theorem right_any (s : ByteArray) (hs : s.size ≤ 4294967296) (w : World) :
    Calls Tryz.prog 37 #[.string s] w fun e w' => BoolIs e (RightI s.data.toList) ∧ Below w.heap.size w w' := by
  rw [right_iff]
  have hc := split_any s hs w
  have hcan := fun w => canon_walk s hs _ _ rfl rfl w
  obtain ⟨m, hm⟩ : ∃ m, Lib.hasPrefix s.data.toList [45] = m := ⟨_, rfl⟩
  obtain ⟨d, hd⟩ : ∃ d, Lib.trimPrefix s.data.toList [45] = d := ⟨_, rfl⟩
  rw [hm, hd] at hc hcan ⊢
  have hdl : d.length ≤ 4294967296 := by
    rw [← hd]
    have := Lib.size_eq s
    unfold Lib.trimPrefix
    split
    · rw [List.length_drop]; omega
    · omega
  have hsz : (⟨d.toArray⟩ : ByteArray).size = d.length := by simp [ByteArray.size]
  clear hm hd
  by_cases hC : CanD m d
  · have HC := Lib.hid hC; clear hC
    by_cases h200 : (d.length : Int) ≤ 200
    · have h200' : decide ((d.length : Int) ≤ 200) = true := decide_eq_true h200
      have hok : OkD m d := ⟨HC.out.1, by omega, HC.out.2.1, HC.out.2.2⟩
      have HR := Lib.hid hok; clear hok
      go_enter Tryz.func37, Tryz.ntmps37
      go_wp2_with (first
        | (with_reducible refine Calls.mono hc ?_; rintro e w1 ⟨rfl, hb1⟩; have hcn := hcan w1)
        | (with_reducible refine Calls.mono hcn ?_; rintro e w2 ⟨hbo, hb2⟩; have hbt := hbo.yes HC.out; clear hbo; subst hbt))
      go_ret
      exact ⟨BoolIs.t HR.out, hb1.trans (hb2.mono hb1.size)⟩
    · have h200' : decide ((d.length : Int) ≤ 200) = false := decide_eq_false h200
      have hok : ¬ OkD m d := fun h => h200 (by have := h.2.1; omega)
      have HR := Lib.hid hok; clear hok
      go_enter Tryz.func37, Tryz.ntmps37
      go_wp2_with (first
        | (with_reducible refine Calls.mono hc ?_; rintro e w1 ⟨rfl, hb1⟩; have hcn := hcan w1)
        | (with_reducible refine Calls.mono hcn ?_; rintro e w2 ⟨hbo, hb2⟩; have hbt := hbo.yes HC.out; clear hbo; subst hbt))
      go_ret
      exact ⟨BoolIs.f HR.out, hb1.trans (hb2.mono hb1.size)⟩
  · have hok : ¬ OkD m d := fun h => hC ⟨h.1, h.2.2.1, h.2.2.2⟩
    have HR := Lib.hid hok; clear hok
    have HC := Lib.hid hC; clear hC
    go_enter Tryz.func37, Tryz.ntmps37
    go_wp2_with (first
      | (with_reducible refine Calls.mono hc ?_; rintro e w1 ⟨rfl, hb1⟩; have hcn := hcan w1)
      | (with_reducible refine Calls.mono hcn ?_; rintro e w2 ⟨hbo, hb2⟩; have hbt := hbo.no HC.out; clear hbo; subst hbt))
    go_ret
    exact ⟨BoolIs.f HR.out, hb1.trans (hb2.mono hb1.size)⟩
end Go.Proofs.YtgfgpepdkffhbaaGreatDoor.Kl
namespace Go.Proofs.YtgfgpepdkffhbaaGreatDoor.Kl
open Go.RowKit Go.Shelf
set_option linter.unusedVariables false
set_option linter.unusedSimpArgs false

theorem dval_take_lt' {D : List UInt8} (h : AllDg D) {k m : Nat} (hk : k ≤ m) : dval (D.take k) < 10 ^ m := by
  have h1 := dval_lt (h.take k)
  have h2 : (D.take k).length ≤ m := by rw [List.length_take]; omega
  exact Nat.lt_of_lt_of_le h1 (Nat.pow_le_pow_right (by decide) h2)

set_option maxRecDepth 100000 in
theorem refSmall_any (x : Int) (hx : (Lib.decDigits x.natAbs).length ≤ 18) (w : World) :
    Calls Tryz.prog 74 #[.string (txt x)] w fun e w' => e = .returned (.tuple #[.int .i64 x, .bool true]) ∧ Below w.heap.size w w' := by
  have hxl := dig_len hx
  have hc := split_txt x (by omega) w
  have hL : (txt (x.natAbs : Int)).data.toList = Lib.decDigits x.natAbs := by rw [txt_list, itoa_nat]
  have hsz : (txt (x.natAbs : Int)).size = (Lib.decDigits x.natAbs).length := by rw [Lib.size_eq, hL]
  have hall := dec_all x.natAbs
  have hvn : dval (Lib.decDigits x.natAbs) = x.natAbs := dval_dec _
  generalize hD : Lib.decDigits x.natAbs = D at *
  generalize hS : txt (x.natAbs : Int) = S at *
  clear hD hS
  have HALL := Lib.hid hall; clear hall
  have HL := Lib.hid hL; clear hL
  have HV := Lib.hid hvn; clear hvn
  obtain ⟨m, hm⟩ : ∃ m, decide (x < 0) = m := ⟨_, rfl⟩
  rw [hm] at hc
  have HM := Lib.hid hm; clear hm
  clear hxl
  go_enter Tryz.func74, Tryz.ntmps74
  go_wp2_with (with_reducible refine Calls.mono hc ?_; rintro e w1 ⟨rfl, hb1⟩)
  go_loopw [6, 7] (fun nv iv wr => ∃ k : Nat, nv = .int .i64 (-((dval (D.take k) : Nat) : Int)) ∧ iv = .int .i64 (k : Int) ∧ k ≤ D.length ∧ Below w.heap.size w wr) (fun _ iv _ => D.length - (intOf iv).toNat)
  case atStart => exact ⟨0, rfl, rfl, Nat.zero_le _, hb1⟩
  case round =>
    obtain ⟨k, rfl, rfl, hk, hbel⟩ := hrel
    by_cases hkl : k < D.length
    · obtain ⟨u, hu⟩ : ∃ u, D[k]? = some u := ⟨_, List.getElem?_eq_getElem hkl⟩
      obtain ⟨hiS, hSi⟩ := byte_at HL.out hu
      have hdu : IsDg u := HALL.out u (List.mem_of_getElem? hu)
      have hu1 : 48 ≤ (u.toNat : Int) := by unfold IsDg at hdu; omega
      have hu2 : (u.toNat : Int) ≤ 57 := by unfold IsDg at hdu; omega
      have hst := dval_take_succ hu
      have hv : dval (D.take k) < 10 ^ 17 := dval_take_lt' HALL.out (by omega)
      have hv2 : dval (D.take k) < 100000000000000000 := hv
      obtain ⟨v, hvv⟩ : ∃ v, dval (D.take k) = v := ⟨_, rfl⟩
      rw [hvv] at hst hv2 ⊢
      have HST := Lib.hid hst; clear hst hu hdu hvv hv
      have hcmp : ¬ (-(v : Int)) < (-9223372036854775808 + ((u.toNat : Int) - 48)).tdiv 10 := by
        obtain ⟨t, ht⟩ : ∃ t : Int, -9223372036854775808 + ((u.toNat : Int) - 48) = t := ⟨_, rfl⟩
        have h1 : t ≤ -9223372036854775799 := by omega
        rw [ht]
        have h2 : t.tdiv 10 = -((-t).tdiv 10) := by rw [Int.neg_tdiv, Int.neg_neg]
        rw [h2, Int.tdiv_eq_ediv_of_nonneg (by omega)]
        omega
      go_wp2_with fail
      exact ⟨⟨k + 1, by rw [HST.out]; congr 1; omega, by congr 1, hkl, hbel⟩, by simp [intOf]; omega⟩
    · obtain rfl : k = D.length := by omega
      rw [List.take_length, HV.out]
      cases m with
      | true =>
        have hx0 : x < 0 := of_decide_eq_true HM.out
        have hv : -((x.natAbs : Nat) : Int) = x := by omega
        rw [hv]
        clear hv hkl HM
        go_wp2_with fail
        go_ret2
        exact ⟨rfl, hbel⟩
      | false =>
        have hx0 : ¬ x < 0 := of_decide_eq_false HM.out
        have hv : -((x.natAbs : Nat) : Int) = -x := by omega
        have hxb : x.natAbs < 10 ^ 18 := by rw [← HV.out]; exact Nat.lt_of_lt_of_le (dval_lt HALL.out) (Nat.pow_le_pow_right (by decide) hx)
        have hxb2 : x < 1000000000000000000 := by have : (10 : Nat) ^ 18 = 1000000000000000000 := by decide
                                                  omega
        rw [hv]
        clear hv hkl HM hxb
        go_wp2_with fail
        go_ret2
        exact ⟨rfl, hbel⟩

theorem brief_yes (x : Int) (hx : (Lib.decDigits x.natAbs).length ≤ 17) (w : World) :
    Calls Tryz.prog 50 #[.string (txt x)] w fun e w' => e = .returned (.tuple #[.int .i64 x, .bool true]) ∧ Below w.heap.size w w' := by
  have hxl := dig_len hx
  have hc := split_txt x (by omega) w
  have hsz : (txt (x.natAbs : Int)).size = (Lib.decDigits x.natAbs).length := by rw [txt_size, itoa_nat]
  have hcs := fun w => refSmall_any x (by omega) w
  go_enter Tryz.func50, Tryz.ntmps50
  go_wp2_with (first
    | (with_reducible refine Calls.mono hc ?_; rintro e w1 ⟨rfl, hb1⟩; have hcs1 := hcs w1)
    | (with_reducible refine Calls.mono hcs1 ?_; rintro e w2 ⟨rfl, hb2⟩))
  go_ret2
  exact ⟨rfl, hb1.trans (hb2.mono hb1.size)⟩

theorem brief_no (x : Int) (hx : ¬ (Lib.decDigits x.natAbs).length ≤ 17) (hm : (Lib.decDigits x.natAbs).length ≤ 2147483648) (w : World) :
    Calls Tryz.prog 50 #[.string (txt x)] w fun e w' => e = .returned (.tuple #[.int .i64 0, .bool false]) ∧ Below w.heap.size w w' := by
  have hxl := dig_len hm
  have hc := split_txt x (by omega) w
  have hsz : (txt (x.natAbs : Int)).size = (Lib.decDigits x.natAbs).length := by rw [txt_size, itoa_nat]
  have h17 : ¬ ((Lib.decDigits x.natAbs).length : Int) ≤ 17 := by omega
  go_enter Tryz.func50, Tryz.ntmps50
  go_wp2_with (first
    | (with_reducible refine Calls.mono hc ?_; rintro e w1 ⟨rfl, hb1⟩))
  go_ret2
  exact ⟨rfl, hb1⟩
end Go.Proofs.YtgfgpepdkffhbaaGreatDoor.Kl
namespace Go.Proofs.YtgfgpepdkffhbaaGreatDoor.Kl
open Go.RowKit Go.Shelf
set_option linter.unusedVariables false
set_option linter.unusedSimpArgs false

set_option maxHeartbeats 400000 in
theorem cutR_any (A : Option Addr) (n c : Nat) (xs : List Nat) (w : World) (h : IsU .i64 w w.heap.size A n c xs) (hm : n ≤ 35184372088832) :
    Calls Tryz.prog 94 #[.slice A n c] w fun e w' => e = .returned (.slice A (trimL xs).length c) ∧ w = w' := by
  obtain rfl : xs.length = n := h.len
  have hcap := h.cap
  go_enter Tryz.func94, Tryz.ntmps94
  go_wp2
  go_loop [0] (fun v => ∃ k : Nat, TrimTo A c xs k v) (fun v => match v with | .slice _ k _ => k | _ => 0)
  case atStart => exact ⟨xs.length, Nat.le_refl _, by rw [List.take_length], rfl⟩
  case round =>
    obtain ⟨k, hk, ht, rfl⟩ := hrel
    by_cases h0 : 0 < k
    · obtain ⟨ad, x, rfl, hb, hx, hc⟩ := h.at_ (j := k - 1) (by omega)
      have e1 : k - 1 + 1 = k := by omega
      by_cases hx0 : x = 0
      · have ht' : trimL (xs.take (k - 1)) = trimL xs := by subst hx0; rw [← ht, ← trimL_take_zero hx, e1]
        have HT := Lib.hid ht'; clear ht' ht e1
        go_wp2
        exact ⟨⟨k - 1, by omega, HT.out, rfl⟩, by show k - 1 < k; omega⟩
      · have ht' : (trimL xs).length = k := by rw [← ht, ← e1, trimL_take_succ hx hx0, List.length_take]; omega
        have HT := Lib.hid ht'; clear ht' ht e1
        go_wp2
        go_ret
        exact ⟨by rw [HT.out]; rfl, rfl⟩
    · have h00 : k = 0 := by omega
      have ht' : (trimL xs).length = k := by rw [← ht, h00]; rfl
      have HT := Lib.hid ht'; clear ht' ht h00
      go_wp2
      go_ret
      exact ⟨by rw [HT.out]; rfl, rfl⟩

set_option maxHeartbeats 800000 in
theorem lessR_any (A A' : Option Addr) (n n' c c' : Nat) (x y : Nat) (w : World) (h : IsU .i64 w w.heap.size A n c (pcs 10000 x)) (h' : IsU .i64 w w.heap.size A' n' c' (pcs 10000 y))
    (hm : n ≤ 35184372088832) (hm' : n' ≤ 35184372088832) :
    Calls Tryz.prog 55 #[.slice A n c, .slice A' n' c'] w fun e w' => e = .returned (.bool (decide (x < y))) ∧ Below w.heap.size w w' := by
  obtain rfl := h.len
  obtain rfl := h'.len
  have dx := dig_pcs (B := 10000) (by decide) x
  have dy := dig_pcs (B := 10000) (by decide) y
  have vx := val_pcs (B := 10000) (by decide) x
  have vy := val_pcs (B := 10000) (by decide) y
  have lx := lt_of_len_lt (B := 10000) (by decide) (m := x) (n := y)
  have ly := lt_of_len_lt (B := 10000) (by decide) (m := y) (n := x)
  have bx : pcs 10000 x = pcs 10000 y → x = y := fun e => by rw [← vx, e, vy]
  generalize pcs 10000 x = xs at *
  generalize pcs 10000 y = ys at *
  have VX := Lib.hid vx; clear vx
  have VY := Lib.hid vy; clear vy
  have LX := Lib.hid lx; clear lx
  have LY := Lib.hid ly; clear ly
  have BX := Lib.hid bx; clear bx
  have DX := Lib.hid dx; clear dx
  have DY := Lib.hid dy; clear dy
  by_cases hlen : xs.length = ys.length
  · have HL := Lib.hid hlen
    have hne : ((xs.length : Int) != (ys.length : Int)) = false := by simp [hlen]
    have hle1 : xs.length ≤ ys.length := by omega
    have hle2 : ys.length ≤ xs.length := by omega
    clear hlen
    go_enter Tryz.func55, Tryz.ntmps55
    go_wp2
    go_loopw [5] (fun v wr => OrdRel xs ys v ∧ Below w.heap.size w wr) (fun v _ => (intOf v + 1).toNat)
    case atStart => exact ⟨⟨(xs.length : Int) - 1, rfl, by omega, by omega, by rw [show ((xs.length : Int) - 1 + 1).toNat = xs.length by omega, List.drop_length, List.drop_eq_nil_of_le (by omega)]⟩, Below.refl _ _⟩
    case round =>
      obtain ⟨⟨i, rfl, hi1, hi2, hd⟩, hbel⟩ := hrel
      have HD := Lib.hid hd; clear hd
      by_cases h0 : 0 ≤ i
      · obtain ⟨j, rfl⟩ := Int.eq_ofNat_of_zero_le h0
        obtain ⟨ad, a, rfl, hb, hxa, hca⟩ := (h.below hbel).at_ (j := j) (by omega)
        obtain ⟨ad', b, rfl, hb', hyb, hcb⟩ := (h'.below hbel).at_ (j := j) (by omega)
        have hxl : (j : Int) < xs.length := by omega
        have hyl : (j : Int) < ys.length := by omega
        by_cases hab : a = b
        · have hd' : xs.drop (((j : Int) - 1 + 1).toNat) = ys.drop (((j : Int) - 1 + 1).toNat) := by
            have := HD.out
            rw [show ((j : Int) - 1 + 1).toNat = j by omega]
            rw [show ((j : Int) + 1).toNat = j + 1 by omega] at this
            have e1 := congrArg (List.drop j) (split_at hxa)
            have e2 := congrArg (List.drop j) (split_at hyb)
            obtain ⟨q1, f1⟩ := List.getElem?_eq_some_iff.1 hxa
            obtain ⟨q2, f2⟩ := List.getElem?_eq_some_iff.1 hyb
            rw [List.drop_eq_getElem_cons q1, List.drop_eq_getElem_cons q2, f1, f2, this, hab]
          have HD' := Lib.hid hd'; clear hd' hxa hyb
          have hne2 : ((a : Int) != (b : Int)) = false := by simp [hab]
          clear hab
          go_wp2
          go_quiet (fail)
          go_wp2
          go_roundw
          case rel => exact ⟨⟨(j : Int) - 1, rfl, by omega, by omega, HD'.out⟩, below_drewN hbel _⟩
          case measure => simp [intOf] <;> omega
        · have hne2 : ((a : Int) != (b : Int)) = true := by simp; omega
          have hdj : xs.drop (j + 1) = ys.drop (j + 1) := by
            have := HD.out
            rwa [show ((j : Int) + 1).toNat = j + 1 by omega] at this
          by_cases hlt : a < b
          · have fin : decide (x < y) = true := by
              have := val_lt_at DX.out HL.out hxa hyb hdj hlt
              rw [VX.out, VY.out] at this
              exact decide_eq_true this
            have FIN := Lib.hid fin; clear fin hdj hxa hyb
            go_wp2
            go_quiet (fail)
            go_wp2
            go_quiet (fail)
            go_wp2
            go_ret
            exact ⟨by rw [FIN.out]; rfl, below_drewN (below_drewN hbel _) _⟩
          · have fin : decide (x < y) = false := by
              have := val_lt_at DY.out HL.out.symm hyb hxa hdj.symm (show b < a by omega)
              rw [VX.out, VY.out] at this
              exact decide_eq_false (by omega)
            have FIN := Lib.hid fin; clear fin hdj hxa hyb
            go_wp2
            go_quiet (fail)
            go_wp2
            go_quiet (fail)
            go_wp2
            go_ret
            exact ⟨by rw [FIN.out]; rfl, below_drewN (below_drewN hbel _) _⟩
      · have fin : decide (x < y) = false := by
          have := HD.out
          rw [show (i + 1).toNat = 0 by omega] at this
          have := BX.out this
          exact decide_eq_false (by omega)
        have FIN := Lib.hid fin; clear fin
        go_wp2
        go_ret
        exact ⟨by rw [FIN.out]; rfl, hbel⟩
  · have hne : ((xs.length : Int) != (ys.length : Int)) = true := by simp; omega
    by_cases hlt : xs.length < ys.length
    · have fin : decide (x < y) = true := decide_eq_true (LX.out hlt)
      have hlti : decide ((xs.length : Int) < (ys.length : Int)) = true := by simp; exact hlt
      have FIN := Lib.hid fin; clear fin
      go_enter Tryz.func55, Tryz.ntmps55
      go_wp2
      go_ret
      exact ⟨by rw [FIN.out]; rfl, Below.refl _ _⟩
    · have fin : decide (x < y) = false := by
        have := LY.out (by omega)
        exact decide_eq_false (by omega)
      have hlti : decide ((xs.length : Int) < (ys.length : Int)) = false := by simp; omega
      have FIN := Lib.hid fin; clear fin
      go_enter Tryz.func55, Tryz.ntmps55
      go_wp2
      go_ret
      exact ⟨by rw [FIN.out]; rfl, Below.refl _ _⟩

end Go.Proofs.YtgfgpepdkffhbaaGreatDoor.Kl
namespace Go.Proofs.YtgfgpepdkffhbaaGreatDoor.Kl
open Go.RowKit Go.Shelf
set_option linter.unusedVariables false
set_option linter.unusedSimpArgs false

theorem itoa_join {a b : Nat} (ha : a ≠ 0) (hb : b < 10000) : txt ((a * 10000 + b : Nat) : Int) = txt (a : Int) ++ (txt ((10000 + b : Nat) : Int)).extract 1 (txt ((10000 + b : Nat) : Int)).size := by
  have h4 : (10 : Nat) ^ 4 = 10000 := rfl
  have h1 : Lib.decDigits (10000 + b) = 49 :: pad 4 b := by
    have := dec_cut (a := 1) (k := 4) (b := b) (by decide) (by rw [h4]; exact hb)
    rw [h4, Nat.one_mul, dec_small (u := 1) (by decide)] at this
    exact this
  have h2 : Lib.decDigits (a * 10000 + b) = Lib.decDigits a ++ pad 4 b := by
    have := dec_cut (a := a) (k := 4) (b := b) ha (by rw [h4]; exact hb)
    rwa [h4] at this
  apply bytes_ext
  have he := Lib.extract_data (txt ((10000 + b : Nat) : Int)) 1 (txt ((10000 + b : Nat) : Int)).size
  rw [show (txt (a : Int) ++ (txt ((10000 + b : Nat) : Int)).extract 1 (txt ((10000 + b : Nat) : Int)).size).data.toList = (txt (a : Int)).data.toList ++ ((txt ((10000 + b : Nat) : Int)).extract 1 (txt ((10000 + b : Nat) : Int)).size).data.toList by simp [ByteArray.data_append]]
  rw [he, txt_size, txt_list, txt_list, txt_list, itoa_nat, itoa_nat, itoa_nat, h1, h2]
  simp

theorem div_pow_len {x n j : Nat} (h : (pcs 10000 x).length = n) : (Lib.itoa ((x / 10000 ^ j : Nat) : Int)).length ≤ 4 * n + 1 := by
  rw [itoa_nat]
  apply dec_len_le _ (by omega)
  have h1 := pcs_len_lt (B := 10000) (by decide) x
  rw [h] at h1
  have h2 : (10000 : Nat) ^ n = 10 ^ (4 * n) := by rw [Nat.pow_mul]
  have h3 : x / 10000 ^ j ≤ x := Nat.div_le_self _ _
  have h4 : (10 : Nat) ^ (4 * n) < 10 ^ (4 * n + 1) := Nat.pow_lt_pow_right (by decide) (by omega)
  omega

set_option maxRecDepth 100000 in
theorem give_any (A : Option Addr) (n c : Nat) (x : Nat) (w : World) (hW : Wd w) (h : IsU .i64 w w.heap.size A n c (pcs 10000 x)) (hm : n ≤ 100000000) :
    Calls Tryz.prog 95 #[.slice A n c] w fun e w' => e = .returned (.string (txt (x : Int))) ∧ Below w.heap.size w w' := by
  by_cases hx : x = 0
  · subst hx
    have hl := h.len
    rw [pcs_zero] at hl
    obtain rfl : n = 0 := hl.symm
    have hz : txt ((0 : Nat) : Int) = ⟨#[48]⟩ := txt_zero
    rw [hz]
    go_enter Tryz.func95, Tryz.ntmps95
    go_wp2
    go_ret
    exact ⟨rfl, Below.refl _ _⟩
  · have hl := h.len
    have hne : pcs 10000 x ≠ [] := by rw [Ne, pcs_nil_iff (by decide)]; exact hx
    have hnp : 0 < n := by rw [← hl]; exact List.length_pos_iff.2 hne
    obtain ⟨m, rfl⟩ : ∃ m, n = m + 1 := ⟨n - 1, by omega⟩
    have hlo := pcs_len_le (B := 10000) (by decide) hx
    have hhi := pcs_len_lt (B := 10000) (by decide) x
    rw [hl, Nat.add_sub_cancel] at hlo
    rw [hl] at hhi
    have hget := fun i hi => pcs_get (B := 10000) (by decide) i x hi
    have HLO := Lib.hid hlo; clear hlo
    have HGET := Lib.hid hget; clear hget
    have HL := Lib.hid hl
    have htop : x / 10000 ^ m % 10000 = x / 10000 ^ m := Nat.mod_eq_of_lt (by
      rw [Nat.div_lt_iff_lt_mul (Nat.pow_pos (by decide))]
      rw [Nat.pow_succ] at hhi
      rw [Nat.mul_comm]; exact hhi)
    obtain ⟨ad, a, rfl, hb, hxa, hca⟩ := h.at_ (j := m) (by omega)
    have ha : a = x / 10000 ^ m := by
      have := HGET.out m (by omega)
      rw [hxa, htop] at this
      exact Option.some.inj this
    have hab : a < 10000 := by
      rw [ha, Nat.div_lt_iff_lt_mul (Nat.pow_pos (by decide))]
      rw [Nat.pow_succ] at hhi
      rw [Nat.mul_comm]; exact hhi
    clear hhi htop hne hnp hl
    have HA := Lib.hid ha; clear ha hxa
    have hit := itoa_any (a : Int) (by omega) (by omega) w hW
    go_enter Tryz.func95, Tryz.ntmps95
    go_wp2_with (with_reducible refine Calls.mono hit ?_; rintro e w1 ⟨rfl, hb1⟩)
    go_loopw [3, 4] (fun ov iv wr => ∃ j : Nat, ov = .string (txt ((x / 10000 ^ j : Nat) : Int)) ∧ iv = .int .i64 ((j : Int) - 1) ∧ j ≤ m ∧ Below w.heap.size w wr) (fun _ iv _ => (intOf iv + 1).toNat)
    case atStart => exact ⟨m, by rw [← HA.out], by congr 1; omega, Nat.le_refl _, hb1⟩
    case round =>
      obtain ⟨j, rfl, rfl, hj, hbel⟩ := hrel
      by_cases hj0 : j = 0
      · subst hj0
        have hz : x / 10000 ^ 0 = x := by simp
        rw [hz]
        go_wp2_with fail
        go_ret
        exact ⟨rfl, hbel⟩
      · obtain ⟨k, rfl⟩ : ∃ k, j = k + 1 := ⟨j - 1, by omega⟩
        obtain ⟨ad', b, e, hb', hxb, hcb⟩ := (h.below hbel).at_ (j := k) (by omega)
        cases e
        have hbv : b = x / 10000 ^ k % 10000 := by
          have := HGET.out k (by rw [HL.out]; omega)
          rw [hxb] at this
          exact Option.some.inj this
        have hb10 : b < 10000 := by rw [hbv]; exact Nat.mod_lt _ (by decide)
        have hX : x / 10000 ^ (k + 1) ≠ 0 := by
          have h1 : 10000 ^ (k + 1) ≤ x := Nat.le_trans (Nat.pow_le_pow_right (by decide) hj) HLO.out
          have := Nat.div_pos h1 (Nat.pow_pos (by decide))
          omega
        have hsum : x / 10000 ^ k = x / 10000 ^ (k + 1) * 10000 + b := by
          rw [hbv, Nat.pow_succ, ← Nat.div_div_eq_div_mul, Nat.mul_comm]
          exact (Nat.div_add_mod _ _).symm
        have hjoin := itoa_join hX hb10
        rw [← hsum] at hjoin
        have hl1 := div_pow_len (j := k + 1) HL.out
        have hl2 : (Lib.itoa ((10000 + b : Nat) : Int)).length ≤ 6 := itoa_len_le (k := 5) (by rw [Int.natAbs_natCast]; omega) (by decide)
        have hl3 : 1 ≤ (Lib.itoa ((10000 + b : Nat) : Int)).length := List.length_pos_iff.2 (itoa_ne _)
        have s1 := txt_size ((x / 10000 ^ (k + 1) : Nat) : Int)
        have s2 := txt_size ((10000 + b : Nat) : Int)
        obtain ⟨T, hT⟩ : ∃ T, txt ((x / 10000 ^ (k + 1) : Nat) : Int) = T := ⟨_, rfl⟩
        rw [hT] at s1 hjoin ⊢
        have HJ := Lib.hid hjoin; clear hjoin hsum hX hT hbv hxb
        rw [← s1] at hl1
        rw [← s2] at hl2 hl3
        clear s1 s2
        have hit2 := itoa_any ((10000 + b : Nat) : Int) (by omega) (by omega) wr (hW.below hbel)
        obtain ⟨Y, hY⟩ : ∃ Y, txt ((10000 + b : Nat) : Int) = Y := ⟨_, rfl⟩
        rw [hY] at HJ hit2 hl2 hl3
        clear hY
        rw [show ((10000 + b : Nat) : Int) = 10000 + (b : Int) from by omega] at hit2
        have hone : (1 : Int) ≤ (Y.size : Int) := by omega
        have hTs : (T.size : Int) ≤ 500000000 := by omega
        go_wp2_with (with_reducible refine Calls.mono hit2 ?_; rintro e w2 ⟨rfl, hb2⟩)
        exact ⟨⟨k, by rw [HJ.out], by congr 1, by omega, hbel.trans (hb2.mono hbel.size)⟩, by simp [intOf]⟩

/-- made: the sign and the pieces of a magnitude, zeros at their end allowed. -/
theorem made_any (mi : Bool) (A : Option Addr) (n c : Nat) (xs : List Nat) (z : Int) (hz : (if mi then -((val 10000 xs : Nat) : Int) else ((val 10000 xs : Nat) : Int)) = z) (hd : Dig 10000 xs) (w : World) (hW : Wd w) (h : IsU .i64 w w.heap.size A n c xs) (hm : n ≤ 100000000) :
    Calls Tryz.prog 53 #[.bool mi, .slice A n c] w fun e w' => e = .returned (.string (txt z)) ∧ Below w.heap.size w w' := by
  have hcut := cutR_any A n c xs w h (by omega)
  have hU := h.trim
  have htl := trimL_le xs
  have hl := h.len
  rw [trim_pcs' (by decide) hd] at hcut hU htl
  obtain ⟨x, hx⟩ : ∃ x, val 10000 xs = x := ⟨_, rfl⟩
  rw [hx] at hcut hU hz htl
  have hgl : (pcs 10000 x).length ≤ 100000000 := by omega
  have hgv := fun w' (hb : Below w.heap.size w w') => give_any A (pcs 10000 x).length c x w' (hW.below hb) (hU.to hb (Nat.le_refl _)) hgl
  clear hx htl hl hd
  have hgw := hgv w (Below.refl _ _)
  have hz0 : (pcs 10000 x).length = 0 ↔ x = 0 := by rw [List.length_eq_zero_iff, pcs_nil_iff (by decide)]
  obtain ⟨L, hL⟩ : ∃ L, (pcs 10000 x).length = L := ⟨_, rfl⟩
  rw [hL] at hcut hgw hz0 hgl
  have hsz := txt_size (x : Int)
  have hdl := div_pow_len (j := 0) hL
  rw [Nat.pow_zero, Nat.div_one] at hdl
  clear hL hgv hU
  by_cases hcase : mi = true ∧ x ≠ 0
  · obtain ⟨rfl, hx0⟩ := hcase
    have hlp : 0 < L := by have := hz0; omega
    have hput := neg_put (x := (x : Int)) (by omega)
    have hzz : txt z = (⟨#[45]⟩ : ByteArray) ++ txt (x : Int) := by rw [hput, ← hz]; rfl
    rw [hzz]
    clear hz hzz hput hz0
    go_enter Tryz.func53, Tryz.ntmps53
    go_wp2_with (first
      | (with_reducible refine Calls.mono hcut ?_; rintro e w1 ⟨rfl, hw1⟩; subst hw1)
      | (with_reducible refine Calls.mono hgw ?_; rintro e w2 ⟨rfl, hb2⟩))
    go_ret
    exact ⟨rfl, hb2⟩
  · have hzz : txt z = txt (x : Int) := by
      rw [← hz]
      cases mi with
      | true =>
        have : x = 0 := by
          apply Classical.byContradiction
          intro hne; exact hcase ⟨rfl, hne⟩
        rw [this]; rfl
      | false => rfl
    rw [hzz]
    clear hz hzz
    cases mi with
    | true =>
      have hL0 : L = 0 := by
        apply Classical.byContradiction
        intro hne; exact hcase ⟨rfl, fun e => hne (hz0.2 e)⟩
      subst hL0
      clear hcase hz0
      go_enter Tryz.func53, Tryz.ntmps53
      go_wp2_with (first
        | (with_reducible refine Calls.mono hcut ?_; rintro e w1 ⟨rfl, hw1⟩; subst hw1)
        | (with_reducible refine Calls.mono hgw ?_; rintro e w2 ⟨rfl, hb2⟩))
      go_ret
      exact ⟨rfl, hb2⟩
    | false =>
      clear hcase hz0
      go_enter Tryz.func53, Tryz.ntmps53
      go_wp2_with (first
        | (with_reducible refine Calls.mono hcut ?_; rintro e w1 ⟨rfl, hw1⟩; subst hw1)
        | (with_reducible refine Calls.mono hgw ?_; rintro e w2 ⟨rfl, hb2⟩))
      go_ret
      exact ⟨rfl, hb2⟩
end Go.Proofs.YtgfgpepdkffhbaaGreatDoor.Kl
namespace Go.Proofs.YtgfgpepdkffhbaaGreatDoor.Kl
open Go.RowKit Go.Shelf
set_option linter.unusedVariables false
set_option linter.unusedSimpArgs false

/-- digits in front, and the pieces that have been taken off the end. -/
structure TakeInv (D : List UInt8) (j : Nat) (ps : List Nat) : Prop where
  at_ : j = D.length - 4 * ps.length
  dig : Dig 10000 ps
  eq : val 10000 ps + 10000 ^ ps.length * dval (D.take j) = dval D
  le : 4 * ps.length ≤ D.length + 3

theorem TakeInv.zero (D : List UInt8) : TakeInv D D.length [] := ⟨by simp, Dig.nil _, by simp [val], by simp⟩

theorem TakeInv.step {D : List UInt8} {j : Nat} {ps : List Nat} (h : TakeInv D j ps) (hD : AllDg D) (hj : 0 < j) : TakeInv D (j - 4) (ps ++ [dval ((D.take j).drop (j - 4))]) := by
  obtain ⟨h1, h2, h3, h4⟩ := h
  have hjl : j ≤ D.length := by omega
  have hl : ((D.take j).drop (j - 4)).length = j - (j - 4) := by rw [List.length_drop, List.length_take]; omega
  have hlt : dval ((D.take j).drop (j - 4)) < 10000 := by
    have := dval_lt ((hD.take j).drop (j - 4))
    have h9 : 10 ^ ((D.take j).drop (j - 4)).length ≤ 10 ^ 4 := Nat.pow_le_pow_right (by decide) (by omega)
    omega
  refine ⟨by simp; omega, h2.app (Dig.one hlt), ?_, by simp; omega⟩
  have e : dval (D.take j) = dval (D.take (j - 4)) * 10 ^ (j - (j - 4)) + dval ((D.take j).drop (j - 4)) := by
    have e1 := List.take_append_drop (j - 4) (D.take j)
    rw [List.take_take, Nat.min_eq_left (by omega)] at e1
    have := dval_append (D.take (j - 4)) ((D.take j).drop (j - 4))
    rw [e1, hl] at this
    exact this
  rw [val_snoc, List.length_append, List.length_singleton, Nat.pow_succ, ← h3, e]
  rcases Nat.lt_or_ge j 5 with h10 | h10
  · rw [show j - 4 = 0 by omega]
    simp [dval_nil]
  · rw [show j - (j - 4) = 4 by omega, show (10 : Nat) ^ 4 = 10000 from rfl, Nat.mul_add, Nat.mul_comm (dval (D.take (j - 4))) 10000, ← Nat.mul_assoc]
    omega

theorem TakeInv.fin {D : List UInt8} {j : Nat} {ps : List Nat} (h : TakeInv D j ps) (hj : j = 0) : trimL ps = pcs 10000 (dval D) := by
  obtain ⟨h1, h2, h3, h4⟩ := h
  subst hj
  rw [trim_pcs' (by decide) h2, ← h3]
  simp [dval_nil]


theorem mid_succ {D : List UInt8} {lo i : Nat} {u : UInt8} (hlo : lo ≤ i) (h : D[i]? = some u) : dval ((D.take (i + 1)).drop lo) = 10 * dval ((D.take i).drop lo) + (u.toNat - 48) := by
  have hi := (List.getElem?_eq_some_iff.1 h).1
  rw [List.take_add_one, h]
  rw [show (some u).toList = [u] from rfl, List.drop_append_of_le_length (by rw [List.length_take]; omega)]
  exact dval_snoc _ _

theorem mid_lt {D : List UInt8} (hD : AllDg D) {lo i : Nat} (h : i ≤ lo + 4) : dval ((D.take i).drop lo) < 10000 := by
  have h1 := dval_lt ((hD.take i).drop lo)
  have h2 : ((D.take i).drop lo).length ≤ 4 := by rw [List.length_drop, List.length_take]; omega
  exact Nat.lt_of_lt_of_le h1 (Nat.pow_le_pow_right (by decide) h2)

set_option maxRecDepth 100000 in
set_option maxHeartbeats 1000000 in
theorem take_any (x : Nat) (hm : (Lib.decDigits x).length ≤ 100000000) (w : World) :
    Calls Tryz.prog 52 #[.string (txt (x : Int))] w fun e w' => (∃ A1 n1 c1, e = .returned (.slice A1 n1 c1) ∧ IsU .i64 w' w'.heap.size A1 n1 c1 (pcs 10000 x) ∧ Fresh w.heap.size A1) ∧ Below w.heap.size w w' := by
  have hL : (txt (x : Int)).data.toList = Lib.decDigits x := by rw [txt_list, itoa_nat]
  have hsz : (txt (x : Int)).size = (Lib.decDigits x).length := by rw [Lib.size_eq, hL]
  have hall := dec_all x
  have hvn : dval (Lib.decDigits x) = x := dval_dec _
  generalize hD : Lib.decDigits x = D at *
  generalize hS : txt (x : Int) = S at *
  clear hD hS
  obtain ⟨P, hP⟩ : ∃ P, pcs 10000 x = P := ⟨_, rfl⟩
  rw [hP]
  have HP := Lib.hid hP; clear hP
  have HALL := Lib.hid hall; clear hall
  have HL := Lib.hid hL; clear hL
  have HV := Lib.hid hvn; clear hvn
  obtain ⟨i0, hi0, hz0, hz1, hz2⟩ := info_parts info_int
  go_enter Tryz.func52, Tryz.ntmps52
  go_wp2
  go_loopw [3, 4] (fun v ev wr => ∃ (j : Nat) (ps : List Nat), ev = .int .i64 ((D.length : Int) - 4 * (ps.length : Int)) ∧ Own .i64 3 wr w.heap.size v ps ∧ TakeInv D j ps ∧ Below w.heap.size w wr) (fun _ ev _ => (intOf ev).toNat)
  case atStart => exact ⟨D.length, [], by simp, Own.nil _ _ _ _, TakeInv.zero D, Below.refl _ _⟩
  case round =>
    obtain ⟨j, ps, rfl, hown, hinv, hbel⟩ := hrel
    have hj := hinv.at_
    have hle := hinv.le
    by_cases h0 : 0 < j
    · have hst := hinv.step HALL.out h0
      have HS := Lib.hid hst; clear hst hinv
      have hpl : ps.length ≤ 100000000 := by omega
      have hej : (D.length : Int) - 4 * (ps.length : Int) = (j : Int) := by omega
      rw [hej]
      have HEJ := Lib.hid hej
      clear hej hj hle
      have hjD : j ≤ D.length := by have := HEJ.out; omega
      go_upto_region 7 with fail
      obtain ⟨wo, rfl⟩ : ∃ wo : World, wo = wr := ⟨_, rfl⟩
      have em : max 0 ((j : Int) - 4) = ((j - 4 : Nat) : Int) := by omega
      rw [em]
      clear em
      go_loopw [5, 6] (fun nv iv wr => ∃ i : Nat, j - 4 ≤ i ∧ i ≤ j ∧ nv = .int .i64 ((dval ((D.take i).drop (j - 4)) : Nat) : Int) ∧ iv = .int .i64 (i : Int) ∧ wr = wo) (fun _ iv _ => j - (intOf iv).toNat)
      case atStart => exact ⟨j - 4, Nat.le_refl _, by omega, by rw [List.drop_eq_nil_of_le (by rw [List.length_take]; omega)]; rfl, rfl, rfl⟩
      case round =>
        obtain ⟨i, hi1, hi2, rfl, rfl, rfl⟩ := hrel
        by_cases hij : i < j
        · obtain ⟨u, hu⟩ : ∃ u, D[i]? = some u := ⟨_, List.getElem?_eq_getElem (by omega)⟩
          obtain ⟨hiS, hSi⟩ := byte_at HL.out hu
          have hdu : IsDg u := HALL.out u (List.mem_of_getElem? hu)
          have hu1 : 48 ≤ (u.toNat : Int) := by unfold IsDg at hdu; omega
          have hu2 : (u.toNat : Int) ≤ 57 := by unfold IsDg at hdu; omega
          have hst := mid_succ hi1 hu
          have hv := mid_lt HALL.out (lo := j - 4) (i := i) (by omega)
          obtain ⟨v, hvv⟩ : ∃ v, dval ((D.take i).drop (j - 4)) = v := ⟨_, rfl⟩
          rw [hvv] at hst hv ⊢
          have HST := Lib.hid hst; clear hst hu hdu hvv
          go_wp2_with fail
          exact ⟨⟨i + 1, by omega, hij, by rw [HST.out]; congr 1; omega, by congr 1, trivial⟩, by simp [intOf]; omega⟩
        · obtain rfl : i = j := by omega
          have hv := mid_lt HALL.out (lo := i - 4) (i := i) (by omega)
          obtain ⟨v, hvv⟩ : ∃ v, dval ((D.take i).drop (i - 4)) = v := ⟨_, rfl⟩
          have hS2 := HS.out
          rw [hvv] at hv hS2 ⊢
          have HS2 := Lib.hid hS2; clear hS2 HS hvv hij hi1 hi2
          go_wp2_with (at_builtin; refine wpList_append_one _ rfl _ _ 75 rfl w.heap.size 3 i0 (.int .i64 0) 8 Tryz.underlying75 hi0 hz0 hz1 hz2 rfl .i64 _ ps rfl (hown.alloc _) wr.heap.size 1 _ v rfl rfl (by simp) (by unfold maxLen; omega) (by omega) (by have := hbel.size; simp; omega) ?_; intro v' w2 hown' hgrow)
          have hb2 : Below w.heap.size w w2 := (hbel.alloc hbel.size _).grown hgrow (by have := hbel.size; simp; omega) (own_base' hown)
          refine ⟨⟨i - 4, ps ++ [v], ?_, hown', HS2.out, hb2⟩, by simp [intOf]; omega⟩
          have := HEJ.out
          rw [List.length_append, List.length_singleton]
          congr 1; omega
    · have hfin := hinv.fin (by omega)
      rw [HV.out, HP.out] at hfin
      have hpl : ps.length ≤ 200000000 := by omega
      have hle0 : (D.length : Int) - 4 * (ps.length : Int) ≤ 0 := by omega
      obtain ⟨A1, c1, rfl, hU⟩ := hown.form' (n := ps.length) rfl
      have hfr := hown.fresh
      have HF := Lib.hid hfin; clear hfin hinv hj hle
      have hcut := cutR_any A1 ps.length c1 ps wr hU (by omega)
      have hT := hU.trim
      rw [HF.out] at hcut hT
      go_wp2_with (with_reducible refine Calls.mono hcut ?_; rintro e w1 ⟨rfl, hw1⟩; subst hw1)
      go_ret
      exact ⟨⟨A1, _, c1, rfl, hT, hfr⟩, hbel⟩
end Go.Proofs.YtgfgpepdkffhbaaGreatDoor.Kl
namespace Go.Proofs.YtgfgpepdkffhbaaGreatDoor.Kl
open Go.RowKit Go.Shelf
set_option linter.unusedVariables false
set_option linter.unusedSimpArgs false

/-- ints as values, and a slice of ints. -/
def zsv (zs : List Int) : List Value := zs.map fun z => Value.int .i64 z
theorem zsv_length (zs : List Int) : (zsv zs).length = zs.length := by simp [zsv]
theorem zsv_get (zs : List Int) (j : Nat) : (zsv zs)[j]? = (zs[j]?).map fun z => Value.int .i64 z := by simp [zsv]
theorem zsv_us (xs : List Nat) : zsv (xs.map fun x : Nat => (x : Int)) = us .i64 xs := by simp [zsv, us]
def IsZ (w : World) (B : Nat) (A : Option Addr) (n c : Nat) (zs : List Int) : Prop := zs.length = n ∧ n ≤ c ∧ Reads w B 1 A n (zsv zs)
section
variable {w w' : World} {B B' n c : Nat} {A : Option Addr} {zs : List Int}
theorem IsZ.len (h : IsZ w B A n c zs) : zs.length = n := h.1
theorem IsZ.below (h : IsZ w B A n c zs) (hb : Below B w w') : IsZ w' B A n c zs := ⟨h.1, h.2.1, h.2.2.below hb⟩
theorem IsZ.more (h : IsZ w B A n c zs) (hB : B ≤ B') : IsZ w B' A n c zs := ⟨h.1, h.2.1, h.2.2.more hB⟩
theorem IsZ.to (h : IsZ w B A n c zs) (hb : Below B w w') (hB : B ≤ w.heap.size) : IsZ w' w'.heap.size A n c zs := (h.below hb).more (by have := hb.size; omega)
theorem IsZ.at_ (h : IsZ w B A n c zs) {j : Nat} (hk : j < n) : ∃ ad z, A = some ad ∧ ad.block < B ∧ zs[j]? = some z ∧ w.cell? (ad.add j) = some (.int .i64 z) := by
  obtain ⟨ad, u, e, hb, hx, hc⟩ := h.2.2.at_ hk
  rw [zsv_get] at hx
  cases hz : zs[j]? with
  | none => rw [hz] at hx; cases hx
  | some z =>
    rw [hz] at hx
    cases hx
    exact ⟨ad, z, e, hb, rfl, hc⟩
theorem IsU.isZ {xs : List Nat} (h : IsU .i64 w B A n c xs) : IsZ w B A n c (xs.map fun x : Nat => (x : Int)) := ⟨by rw [List.length_map]; exact h.1, h.2.1, by rw [zsv_us]; exact h.2.2⟩
end

/-- the number that ints write in a base. -/
def valZ : List Int → Int
  | [] => 0
  | z :: zs => z + 10000 * valZ zs
theorem valZ_nat (xs : List Nat) : valZ (xs.map fun x : Nat => (x : Int)) = (val 10000 xs : Nat) := by
  induction xs with
  | nil => rfl
  | cons x xs ih => simp [valZ, val, ih]

/-- what carry has done behind k steps. -/
structure CarInv (V : Int) (zs : List Int) (k : Nat) (ps : List Nat) (o : Int) : Prop where
  len : ps.length = k
  dig : Dig 10000 ps
  eq : ((val 10000 ps : Nat) : Int) + 10000 ^ k * (o + valZ (zs.drop k)) = V

theorem CarInv.zero (zs : List Int) : CarInv (valZ zs) zs 0 [] 0 := ⟨rfl, Dig.nil _, by simp [val]⟩

theorem car_eq {V X : Int} {k : Nat} {ps : List Nat} {t : Int} (hlen : ps.length = k) (heq : ((val 10000 ps : Nat) : Int) + 10000 ^ k * (t + 10000 * X) = V) : ((val 10000 (ps ++ [(t % 10000).toNat]) : Nat) : Int) + 10000 ^ (k + 1) * (t / 10000 + X) = V := by
  rw [val_snoc, hlen, ← heq]
  have h1 : ((t % 10000).toNat : Int) = t % 10000 := by omega
  rw [Int.natCast_add, Int.natCast_mul, h1, Int.natCast_pow, Int.pow_succ]
  have h2 : t = 10000 * (t / 10000) + t % 10000 := (Int.mul_ediv_add_emod t 10000).symm
  obtain ⟨q, hq⟩ : ∃ q, t / 10000 = q := ⟨_, rfl⟩
  obtain ⟨r, hr⟩ : ∃ r, t % 10000 = r := ⟨_, rfl⟩
  rw [hq, hr] at h2 ⊢
  rw [h2]
  have e : ((10000 : Nat) : Int) = 10000 := rfl
  rw [e]
  generalize (10000 : Int) ^ k = P
  rw [Int.mul_assoc, Int.add_assoc, ← Int.mul_add]
  congr 2
  omega

theorem CarInv.step_in {V : Int} {zs : List Int} {k : Nat} {ps : List Nat} {o z : Int} (h : CarInv V zs k ps o) (hz : zs[k]? = some z) : CarInv V zs (k + 1) (ps ++ [((o + z) % 10000).toNat]) ((o + z) / 10000) := by
  obtain ⟨h1, h2, h3⟩ := h
  obtain ⟨hk, he⟩ := List.getElem?_eq_some_iff.1 hz
  refine ⟨by simp [h1], h2.app (Dig.one (by omega)), car_eq h1 ?_⟩
  rw [List.drop_eq_getElem_cons hk, he, valZ] at h3
  rw [← h3]
  congr 2
  omega
theorem CarInv.step_out {V : Int} {zs : List Int} {k : Nat} {ps : List Nat} {o : Int} (h : CarInv V zs k ps o) (hk : zs.length ≤ k) : CarInv V zs (k + 1) (ps ++ [(o % 10000).toNat]) (o / 10000) := by
  obtain ⟨h1, h2, h3⟩ := h
  refine ⟨by simp [h1], h2.app (Dig.one (by omega)), car_eq h1 ?_⟩
  rw [List.drop_eq_nil_of_le hk, valZ] at h3
  rw [List.drop_eq_nil_of_le (by omega), valZ, ← h3]
  congr 2
theorem CarInv.nonneg {V : Int} {zs : List Int} {k : Nat} {ps : List Nat} {o : Int} (h : CarInv V zs k ps o) (hk : zs.length ≤ k) (hV : 0 ≤ V) : 0 ≤ o := by
  obtain ⟨h1, h2, h3⟩ := h
  rw [List.drop_eq_nil_of_le hk, valZ, Int.add_zero] at h3
  have hlt := val_lt h2
  rw [h1] at hlt
  apply Int.le_of_not_gt
  intro hneg
  have hp : (0 : Int) < 10000 ^ k := Int.pow_pos (by decide)
  have hlt' : ((val 10000 ps : Nat) : Int) < 10000 ^ k := by
    have : ((val 10000 ps : Nat) : Int) < ((10000 ^ k : Nat) : Int) := by omega
    rwa [Int.natCast_pow] at this
  have h5 : 10000 ^ k * o ≤ 10000 ^ k * (-1) := Int.mul_le_mul_of_nonneg_left (by omega) (by omega)
  omega
theorem CarInv.fin {V : Int} {zs : List Int} {k : Nat} {ps : List Nat} {x : Nat} (h : CarInv V zs k ps 0) (hk : zs.length ≤ k) (hV : V = (x : Int)) : trimL ps = pcs 10000 x := by
  obtain ⟨h1, h2, h3⟩ := h
  rw [List.drop_eq_nil_of_le hk, valZ] at h3
  rw [trim_pcs' (by decide) h2]
  congr 1
  have : (10000 : Int) ^ k * (0 + 0) = 0 := by simp
  omega

theorem tmod_cases (o : Int) : (o.tmod 10000 < 0 ∧ o.tmod 10000 + 10000 = o % 10000) ∨ (¬ o.tmod 10000 < 0 ∧ o.tmod 10000 = o % 10000) := by
  by_cases h : 0 ≤ o
  · right
    rw [Int.tmod_eq_emod_of_nonneg h]
    omega
  · have e : o.tmod 10000 = -((-o) % 10000) := by
      rw [← Int.tmod_eq_emod_of_nonneg (by omega), Int.neg_tmod, Int.neg_neg]
    rw [e]
    omega
theorem exact_div (o : Int) : (o - o % 10000).tdiv 10000 = o / 10000 := by
  have : o - o % 10000 = 10000 * (o / 10000) := by omega
  rw [this, Int.mul_tdiv_cancel_left _ (by decide)]

set_option maxRecDepth 100000 in
set_option maxHeartbeats 1000000 in
theorem carry_any (A : Option Addr) (n c : Nat) (zs : List Int) (x : Nat) (hx : valZ zs = (x : Int)) (hb : ∀ z ∈ zs, -10000000000000 ≤ z ∧ z ≤ 10000000000000) (w : World) (h : IsZ w w.heap.size A n c zs) (hm : n ≤ 200000000) :
    Calls Tryz.prog 96 #[.slice A n c] w fun e w' => (∃ A1 n1 c1, e = .returned (.slice A1 n1 c1) ∧ IsU .i64 w' w'.heap.size A1 n1 c1 (pcs 10000 x) ∧ Fresh w.heap.size A1) ∧ Below w.heap.size w w' := by
  have hlen := h.len
  obtain ⟨P, hP⟩ : ∃ P, pcs 10000 x = P := ⟨_, rfl⟩
  rw [hP]
  have HP := Lib.hid hP; clear hP
  have HX := Lib.hid hx; clear hx
  have HB := Lib.hid hb; clear hb
  have HLEN := Lib.hid hlen; clear hlen
  obtain ⟨i0, hi0, hz0, hz1, hz2⟩ := info_parts info_int
  go_enter Tryz.func96, Tryz.ntmps96
  go_wp2
  go_loopw [3, 4, 5] (fun v ov iv wr => ∃ (k : Nat) (ps : List Nat) (o : Int), ov = .int .i64 o ∧ iv = .int .i64 (k : Int) ∧ Own .i64 3 wr w.heap.size v ps ∧ CarInv (valZ zs) zs k ps o ∧ -10000000000000 ≤ o ∧ o ≤ 10000000000000 ∧ (k ≤ n ∨ ((k : Int) + o ≤ (n : Int) + 10000000000000 ∧ 0 ≤ o)) ∧ Below w.heap.size w wr) (fun _ ov iv _ => (n - (intOf iv).toNat) * 10000000000001 + (intOf ov).natAbs)
  case atStart => exact ⟨0, [], 0, rfl, rfl, Own.nil _ _ _ _, CarInv.zero zs, by decide, by decide, Or.inl (Nat.zero_le _), Below.refl _ _⟩
  case round =>
    obtain ⟨k, ps, o, rfl, rfl, hown, hinv, ho1, ho2, hko, hbel⟩ := hrel
    have hpk := hinv.len
    by_cases hk : k < n
    · obtain ⟨ad, z, rfl, hbz, hzz, hcz⟩ := (h.below hbel).at_ hk
      have hzb := HB.out z (List.mem_of_getElem? hzz)
      have hst := hinv.step_in hzz
      have HST := Lib.hid hst; clear hst hinv hzz
      obtain ⟨t, ht⟩ : ∃ t, o + z = t := ⟨_, rfl⟩
      rw [ht] at HST
      have ht1 : -20000000000000 ≤ t := by omega
      have ht2 : t ≤ 20000000000000 := by omega
      have hex := exact_div t
      have htc := tmod_cases t
      have hq1 : -2000000001 ≤ t / 10000 := by omega
      have hq2 : t / 10000 ≤ 2000000001 := by omega
      have hrt : ((t % 10000).toNat : Int) = t % 10000 := by omega
      obtain ⟨r, hr⟩ : ∃ r, (t % 10000).toNat = r := ⟨_, rfl⟩
      obtain ⟨q, hq⟩ : ∃ q, t / 10000 = q := ⟨_, rfl⟩
      rw [hr] at HST hrt
      rw [← hrt] at htc hex
      rw [hq] at HST hex hq1 hq2
      have hr1 : (r : Int) < 10000 := by omega
      clear hq hr hrt
      rcases htc with ⟨hneg, hadd⟩ | ⟨hneg, hadd⟩
      · obtain ⟨m, hm'⟩ : ∃ m, t.tmod 10000 = m := ⟨_, rfl⟩
        rw [hm'] at hneg hadd
        go_wp2_with (at_builtin; refine wpList_append_one _ rfl _ _ 75 rfl w.heap.size 3 i0 (.int .i64 0) 8 Tryz.underlying75 hi0 hz0 hz1 hz2 rfl .i64 _ ps rfl (hown.alloc _) wr.heap.size 1 _ r rfl rfl (by simp) (by unfold maxLen; omega) (by omega) (by have := hbel.size; simp; omega) ?_; intro v' w2 hown' hgrow)
        have hb2 : Below w.heap.size w w2 := (hbel.alloc hbel.size _).grown hgrow (by have := hbel.size; simp; omega) (own_base' hown)
        exact ⟨⟨k + 1, ps ++ [r], q, rfl, by congr 1, hown', HST.out, by omega, by omega, Or.inl hk, hb2⟩, by simp [intOf]; omega⟩
      · obtain ⟨m, hm'⟩ : ∃ m, t.tmod 10000 = m := ⟨_, rfl⟩
        rw [hm'] at hneg hadd
        go_wp2_with (at_builtin; refine wpList_append_one _ rfl _ _ 75 rfl w.heap.size 3 i0 (.int .i64 0) 8 Tryz.underlying75 hi0 hz0 hz1 hz2 rfl .i64 _ ps rfl (hown.alloc _) wr.heap.size 1 _ r rfl rfl (by simp) (by unfold maxLen; omega) (by omega) (by have := hbel.size; simp; omega) ?_; intro v' w2 hown' hgrow)
        have hb2 : Below w.heap.size w w2 := (hbel.alloc hbel.size _).grown hgrow (by have := hbel.size; simp; omega) (own_base' hown)
        exact ⟨⟨k + 1, ps ++ [r], q, rfl, by congr 1, hown', HST.out, by omega, by omega, Or.inl hk, hb2⟩, by simp [intOf]; omega⟩
    · have hkz : zs.length ≤ k := by rw [HLEN.out]; omega
      have ho0 := hinv.nonneg hkz (by rw [HX.out]; omega)
      by_cases hoz : o = 0
      · subst hoz
        have hfin := hinv.fin hkz HX.out
        rw [HP.out] at hfin
        have hpl : ps.length ≤ 20000000000000 := by omega
        obtain ⟨A1, c1, rfl, hU⟩ := hown.form' (n := k) hpk
        have hfr := hown.fresh
        have HF := Lib.hid hfin; clear hfin hinv
        have hcut := cutR_any A1 k c1 ps wr hU (by omega)
        have hT := hU.trim
        rw [HF.out] at hcut hT
        clear hkz hko ho1 ho2
        go_wp2_with (with_reducible refine Calls.mono hcut ?_; rintro e w1 ⟨rfl, hw1⟩; subst hw1)
        go_ret
        exact ⟨⟨A1, _, c1, rfl, hT, hfr⟩, hbel⟩
      · have hst := hinv.step_out hkz
        have HST := Lib.hid hst; clear hst hinv hkz
        obtain ⟨t, ht⟩ : ∃ t, o = t := ⟨_, rfl⟩
        subst ht
        have hex := exact_div o
        have htc : o.tmod 10000 = o % 10000 := Int.tmod_eq_emod_of_nonneg ho0
        have hq1 : 0 ≤ o / 10000 := by omega
        have hq2 : o / 10000 < o := by omega
        have hrt : ((o % 10000).toNat : Int) = o % 10000 := by omega
        obtain ⟨r, hr⟩ : ∃ r, (o % 10000).toNat = r := ⟨_, rfl⟩
        obtain ⟨q, hq⟩ : ∃ q, o / 10000 = q := ⟨_, rfl⟩
        rw [hr] at HST hrt
        rw [← hrt] at htc hex
        rw [hq] at HST hex hq1 hq2
        have hr1 : (r : Int) < 10000 := by omega
        clear hq hr hrt
        have hpb : ps.length ≤ 10000200000000 := by omega
        go_wp2_with (at_builtin; refine wpList_append_one _ rfl _ _ 75 rfl w.heap.size 3 i0 (.int .i64 0) 8 Tryz.underlying75 hi0 hz0 hz1 hz2 rfl .i64 _ ps rfl (hown.alloc _) wr.heap.size 1 _ r rfl rfl (by simp) (by unfold maxLen; omega) (by omega) (by have := hbel.size; simp; omega) ?_; intro v' w2 hown' hgrow)
        have hb2 : Below w.heap.size w w2 := (hbel.alloc hbel.size _).grown hgrow (by have := hbel.size; simp; omega) (own_base' hown)
        exact ⟨⟨k + 1, ps ++ [r], q, rfl, by congr 1, hown', HST.out, by omega, by omega, Or.inr ⟨by omega, hq1⟩, hb2⟩, by simp [intOf]; omega⟩
end Go.Proofs.YtgfgpepdkffhbaaGreatDoor.Kl
namespace Go.Proofs.YtgfgpepdkffhbaaGreatDoor.Kl
open Go.RowKit Go.Shelf
set_option linter.unusedVariables false
set_option linter.unusedSimpArgs false

/-- the value v owns the row of the ints zs. -/
def OwnZ (e : TypeId) (w : World) (base : Nat) (v : Value) (zs : List Int) : Prop := w.ownsRow base e 1 v zs.length (zsv zs)
section
variable {e : TypeId} {w w' : World} {base : Nat} {v : Value} {zs : List Int} {xs : List Nat}
theorem Own.z (h : Own .i64 e w base v xs) : OwnZ e w base v (xs.map fun x : Nat => (x : Int)) := by
  unfold OwnZ; rw [List.length_map, zsv_us]; exact h
theorem OwnZ.isZ {A : Option Addr} {n c : Nat} (h : OwnZ e w base (.slice A n c) zs) (hn : zs.length = n) : IsZ w w.heap.size A n c zs := by
  rcases h.2 with ⟨hv, h0⟩ | ⟨g, cap, cur, hv, hg, hh, hnc, _⟩
  · cases hv
    have : zs = [] := List.eq_nil_of_length_eq_zero h0
    subst this
    exact ⟨rfl, Nat.le_refl _, Reads.none_⟩
  · injection hv with h1 h2 h3
    subst h1 h3
    have hnc' : n ≤ c := by rw [h2]; exact hnc
    refine ⟨hn, hnc', ?_⟩
    have hr : w.ownsRow base e 1 (.slice (some ⟨g, 0, none⟩) n c) n (zsv zs) := by
      have := h; unfold OwnZ at this; rwa [hn] at this
    exact Reads.of_own hr
theorem OwnZ.form (h : OwnZ e w base v zs) : ∃ A c, v = .slice A zs.length c := by
  rcases h.2 with ⟨hv, h0⟩ | ⟨g, cap, cur, hv, _⟩
  · exact ⟨none, 0, by rw [hv, h0]⟩
  · exact ⟨_, _, hv⟩
theorem OwnZ.alloc (h : OwnZ e w base v zs) (o : Obj) : OwnZ e (w.alloc o) base v zs := World.ownsRow.alloc h o
theorem OwnZ.drew (h : OwnZ e w base v zs) : OwnZ e w.drew base v zs := h
theorem OwnZ.base' (h : OwnZ e w base v zs) : ∀ g, v.ownBlock = some g → base ≤ g := fun g hg => by
  rcases h.2 with ⟨rfl, _⟩ | ⟨g', cap, cur, rfl, hb, _⟩
  · simp [Value.ownBlock] at hg
  · have : g' = g := by simpa [Value.ownBlock] using hg
    subst this; exact hb
theorem OwnZ.snoc {z : Int} {v' : Value} (h : w'.ownsRow base e 1 v' (zs.length + 1) (zsv zs ++ [.int .i64 z])) : OwnZ e w' base v' (zs ++ [z]) := by
  unfold OwnZ
  rw [List.length_append, List.length_singleton, show zsv (zs ++ [z]) = zsv zs ++ [.int .i64 z] by simp [zsv]]
  exact h
end

theorem OwnZ.pos {e : TypeId} {w : World} {base : Nat} {v : Value} {zs : List Int} (h : OwnZ e w base v zs) (hl : 0 < zs.length) : ∃ g cap, v = .slice (some ⟨g, 0, none⟩) zs.length cap ∧ base ≤ g ∧ g < w.heap.size ∧ (∀ i z, zs[i]? = some z → w.cell? ⟨g, i, none⟩ = some (.int .i64 z)) ∧ (∀ i, w.frozen? ⟨g, i, none⟩ = false) ∧ (∀ i u, OwnZ e (w.setCell ⟨g, i, none⟩ (.int .i64 u)) base v (zs.set i u)) := by
  obtain ⟨g, cap, rfl, hb, hg⟩ := World.ownsRow.form h hl
  refine ⟨g, cap, rfl, hb, hg, fun i z hz => ?_, fun i => World.ownsRow.frozenAt h i, fun i u => ?_⟩
  · have hi := (List.getElem?_eq_some_iff.1 hz).1
    rw [World.ownsRow.cellAt h i (by omega), zsv_get, hz]; rfl
  · have := (World.ownsRow.stored h i (.int .i64 u)).1
    unfold OwnZ
    rw [List.length_set, show zsv (zs.set i u) = (zsv zs).set i (.int .i64 u) by simp [zsv, List.map_set]]
    exact this

theorem valZ_append (a b : List Int) : valZ (a ++ b) = valZ a + 10000 ^ a.length * valZ b := by
  induction a with
  | nil => simp [valZ]
  | cons x a ih =>
    rw [List.cons_append, valZ, valZ, ih, List.length_cons, Int.pow_succ]
    generalize (10000 : Int) ^ a.length = P
    rw [Int.mul_add, Int.mul_comm P 10000, Int.mul_assoc 10000 P (valZ b)]; omega
theorem valZ_set {zs : List Int} {i : Nat} {z u : Int} (h : zs[i]? = some z) : valZ (zs.set i u) = valZ zs + 10000 ^ i * (u - z) := by
  obtain ⟨hi, he⟩ := List.getElem?_eq_some_iff.1 h
  have e1 : zs = zs.take i ++ z :: zs.drop (i + 1) := by
    conv => lhs; rw [← List.take_append_drop i zs]
    rw [List.drop_eq_getElem_cons hi, he]
  have e2 : zs.set i u = zs.take i ++ u :: zs.drop (i + 1) := by rw [List.set_eq_take_append_cons_drop, if_pos hi]
  have hl : (zs.take i).length = i := by rw [List.length_take]; omega
  rw [e2, valZ_append, hl]
  conv => rhs; rw [e1, valZ_append, hl]
  rw [valZ, valZ]
  generalize (10000 : Int) ^ i = P
  generalize valZ (zs.drop (i + 1)) = T
  rw [Int.mul_add, Int.mul_add, Int.mul_sub]
  omega
theorem valZ_snoc0 (zs : List Int) : valZ (zs ++ [0]) = valZ zs := by rw [valZ_append]; simp [valZ]

/-- joined behind i of the second's pieces. -/
structure JoinInv (p q : List Nat) (k : Int) (i : Nat) (zs : List Int) : Prop where
  le : i ≤ zs.length
  ge : p.length ≤ zs.length
  most : zs.length ≤ p.length + i + 1
  eq : valZ zs = ((val 10000 p : Nat) : Int) + k * ((val 10000 (q.take i) : Nat) : Int)
  rest : ∀ j z, i ≤ j → zs[j]? = some z → 0 ≤ z ∧ z < 10000
  all : ∀ z ∈ zs, -1000000000 ≤ z ∧ z ≤ 1000000000

theorem JoinInv.zero {p : List Nat} (hp : Dig 10000 p) (q : List Nat) (k : Int) : JoinInv p q k 0 (p.map fun x : Nat => (x : Int)) := by
  have hall : ∀ z ∈ p.map (fun x : Nat => (x : Int)), 0 ≤ z ∧ z < 10000 := fun z hz => by
    obtain ⟨x, hx, rfl⟩ := List.mem_map.1 hz
    have := hp x hx; omega
  refine ⟨Nat.zero_le _, by simp, by simp, by rw [valZ_nat]; simp [val], fun j z _ h => hall z (List.mem_of_getElem? h), fun z hz => ?_⟩
  have := hall z hz; omega
theorem JoinInv.pad {p q : List Nat} {k : Int} {i : Nat} {zs : List Int} (h : JoinInv p q k i zs) (hl : zs.length = i) : JoinInv p q k i (zs ++ [0]) := by
  obtain ⟨h1, h2, h3, h4, h5, h6⟩ := h
  refine ⟨by simp; omega, by simp; omega, by simp; omega, by rw [valZ_snoc0]; exact h4, fun j z hj hz => ?_, fun z hz => ?_⟩
  · rw [List.getElem?_append_right (by omega)] at hz
    have : z ∈ [(0 : Int)] := List.mem_of_getElem? hz
    simp at this; omega
  · rcases List.mem_append.1 hz with hz | hz
    · exact h6 z hz
    · simp at hz; omega

theorem JoinInv.step {p q : List Nat} {k : Int} {i b : Nat} {zs : List Int} {z : Int} (h : JoinInv p q k i zs) (hq : q[i]? = some b) (hz : zs[i]? = some z) (hb : b < 10000) (hk : -9999 ≤ k ∧ k ≤ 9999) : JoinInv p q k (i + 1) (zs.set i (z + k * (b : Int))) := by
  obtain ⟨h1, h2, h3, h4, h5, h6⟩ := h
  have hi := (List.getElem?_eq_some_iff.1 hz).1
  have hkb : -99990000 ≤ k * (b : Int) ∧ k * (b : Int) ≤ 99990000 := by
    constructor
    · have : -9999 * (b : Int) ≤ k * (b : Int) := Int.mul_le_mul_of_nonneg_right hk.1 (by omega)
      omega
    · have : k * (b : Int) ≤ 9999 * (b : Int) := Int.mul_le_mul_of_nonneg_right hk.2 (by omega)
      omega
  refine ⟨by rw [List.length_set]; exact hi, by rw [List.length_set]; exact h2, by rw [List.length_set]; omega, ?_, fun j u hj hu => ?_, fun u hu => ?_⟩
  · rw [valZ_set hz, h4, List.take_add_one, hq, show (some b).toList = [b] from rfl, val_snoc, List.length_take]
    have hqi := (List.getElem?_eq_some_iff.1 hq).1
    rw [show min i q.length = i by omega, Int.natCast_add, Int.natCast_mul, Int.natCast_pow, show ((10000 : Nat) : Int) = 10000 from rfl]
    generalize (10000 : Int) ^ i = P
    rw [Int.mul_add, ← Int.mul_assoc, Int.mul_comm k P, Int.mul_assoc, show z + k * (b : Int) - z = k * (b : Int) by omega]
    omega
  · rw [List.getElem?_set_ne (by omega)] at hu
    exact h5 j u (by omega) hu
  · rcases List.mem_or_eq_of_mem_set hu with hu | hu
    · exact h6 u hu
    · have := h5 i z (Nat.le_refl _) hz
      rw [hu]; omega

set_option maxRecDepth 100000 in
set_option maxHeartbeats 1000000 in
theorem joined_any (A A' : Option Addr) (n n' c c' : Nat) (ps qs : List Nat) (k : Int) (hk : -9999 ≤ k ∧ k ≤ 9999) (x : Nat) (hx : ((val 10000 ps : Nat) : Int) + k * ((val 10000 qs : Nat) : Int) = (x : Int)) (hp : Dig 10000 ps) (hq : Dig 10000 qs) (w : World) (h : IsU .i64 w w.heap.size A n c ps) (h' : IsU .i64 w w.heap.size A' n' c' qs) (hm : n ≤ 90000000) (hm' : n' ≤ 90000000) :
    Calls Tryz.prog 54 #[.slice A n c, .slice A' n' c', .int .i64 k, .int .i64 0] w fun e w' => (∃ A1 n1 c1, e = .returned (.slice A1 n1 c1) ∧ IsU .i64 w' w'.heap.size A1 n1 c1 (pcs 10000 x) ∧ Fresh w.heap.size A1) ∧ Below w.heap.size w w' := by
  obtain ⟨i0, hi0, hz0, hz1, hz2⟩ := info_parts info_int
  have hpl := h.len
  have hql := h'.len
  have HX := Lib.hid hx; clear hx
  have HK := Lib.hid hk; clear hk
  have HQ := Lib.hid hq; clear hq
  have hj0 := JoinInv.zero hp qs k
  have HJ0 := Lib.hid hj0; clear hj0 hp
  have HPL := Lib.hid hpl; clear hpl
  have HQL := Lib.hid hql; clear hql
  have hlit : Own .i64 3 (w.alloc (.cells #[] 3)) w.heap.size (.slice (some ⟨w.heap.size, 0, none⟩) 0 0) [] :=
    World.ownsRow_lit w #[] 0 (Nat.le_refl _) (by unfold maxLen; omega) rfl
  have hal : Below w.heap.size w (w.alloc (.cells #[] 3)) := (Below.refl _ _).alloc (Nat.le_refl _) _
  have hUp := h.below hal
  go_enter Tryz.func54, Tryz.ntmps54
  go_wp2_with (at_builtin; refine wpList_append_all _ rfl _ _ 75 rfl w.heap.size 3 i0 (.int .i64 0) 8 Tryz.underlying75 hi0 hz0 hz1 hz2 rfl .i64 _ [] ps rfl hlit w.heap.size n c A rfl hUp (by unfold maxLen; simp; omega) (by simp; omega) (by simp) ?_; intro v' w6 hown6 hgrow6)
  have hb6 : Below w.heap.size w w6 := hal.grown hgrow6 (by simp) (own_base' hlit)
  rw [List.nil_append] at hown6
  have hz6 := hown6.z
  clear hown6 hgrow6 hUp hal hlit
  go_loopw [9, 10] (fun v iv wr => ∃ (i : Nat) (zs : List Int), iv = .int .i64 (i : Int) ∧ OwnZ 3 wr w.heap.size v zs ∧ JoinInv ps qs k i zs ∧ i ≤ n' ∧ Below w.heap.size w wr) (fun _ iv _ => n' - (intOf iv).toNat)
  case atStart => exact ⟨0, _, rfl, hz6, HJ0.out, Nat.zero_le _, hb6⟩
  case round =>
    obtain ⟨i, zs, rfl, hown, hinv, hi, hbel⟩ := hrel
    by_cases hin : i < n'
    · have HINV := Lib.hid hinv; clear hinv
      go_upto_region 5 with fail
      go_loopw [9] (fun v wr => ∃ zs : List Int, OwnZ 3 wr w.heap.size v zs ∧ RowKit.Hid (JoinInv ps qs k i zs) ∧ Below w.heap.size w wr) (fun v _ => match v with | .slice _ l _ => i + 1 - l | _ => 0)
      case atStart => exact ⟨zs, hown, HINV, hbel⟩
      case round =>
        obtain ⟨zs2, hown2, hinv2, hbel2⟩ := hrel
        clear hown hbel HINV
        have hle2 := hinv2.out.le
        have hmost := hinv2.out.most
        rw [HPL.out] at hmost
        by_cases hz2l : zs2.length ≤ i
        · obtain ⟨A9, c9, rfl⟩ := hown2.form
          have hpad := hinv2.out.pad (by omega)
          have HPAD := Lib.hid hpad; clear hpad
          go_wp2_with (at_builtin; refine wpList_append_own _ rfl _ _ 75 rfl w.heap.size 3 i0 (.int .i64 0) 1 8 Tryz.underlying75 hi0 hz0 hz1 hz2 rfl (by decide) _ _ _ rfl (hown2.alloc _) ⟨wr.heap.size, 0, none⟩ 1 1 [.int .i64 0] rfl rfl (cell_one_new _ _ _) (by intro u hu; simp only [List.mem_singleton] at hu; subst hu; rfl) (by unfold maxLen; omega) (by omega) (by have := hbel2.size; simp; omega) ?_; intro v' w1 hown' hgrow _)
          have hb1 : Below w.heap.size w w1 := (hbel2.alloc hbel2.size _).grown hgrow (by have := hbel2.size; simp; omega) hown2.base'
          have hs1 := OwnZ.snoc hown'
          obtain ⟨A10, c10, rfl⟩ := hs1.form
          exact ⟨⟨zs2 ++ [0], hs1, HPAD, hb1⟩, by simp; omega⟩
        · have hlt2 : i < zs2.length := by omega
          obtain ⟨g, cap, rfl, hbg, hgw, hcells, hfroz, hset⟩ := hown2.pos (by omega)
          obtain ⟨z, hz⟩ : ∃ z, zs2[i]? = some z := ⟨_, List.getElem?_eq_getElem hlt2⟩
          obtain ⟨ad', b, rfl, hb', hqb, hcb⟩ := (h'.below hbel2).at_ hin
          have hb10 : b < 10000 := HQ.out b (List.mem_of_getElem? hqb)
          have hst := hinv2.out.step hqb hz hb10 HK.out
          have hrest := hinv2.out.rest i z (Nat.le_refl _) hz
          have hci := hcells i z hz
          have hfi := hfroz i
          have HSET := Lib.hid (hset i (z + k * (b : Int)))
          have hkb : -99990000 ≤ k * (b : Int) ∧ k * (b : Int) ≤ 99990000 := by
            have hk := HK.out
            constructor
            · have : -9999 * (b : Int) ≤ k * (b : Int) := Int.mul_le_mul_of_nonneg_right hk.1 (by omega)
              omega
            · have : k * (b : Int) ≤ 9999 * (b : Int) := Int.mul_le_mul_of_nonneg_right hk.2 (by omega)
              omega
          have HST := Lib.hid hst
          have hw1 : wrap64 (k * (b : Int)) = k * (b : Int) := IntWalk.wrap64_in _ ⟨by omega, by omega⟩
          have hw2 : wrap64 (z + k * (b : Int)) = z + k * (b : Int) := IntWalk.wrap64_in _ ⟨by omega, by omega⟩
          clear hst hset hcells hfroz hinv2 hown2 hz hqb
          go_wp2_with fail
          have hbs : Below w.heap.size w (wr.setCell ⟨g, i, none⟩ (.int .i64 (z + k * (b : Int)))).drew := (hbel2.setCell (p := ⟨g, i, none⟩) hbg _).drew
          have HBS := Lib.hid hbs; clear hbs
          go_region
          go_wp2_with fail
          exact ⟨⟨i + 1, zs2.set i (z + k * (b : Int)), by congr 1, HSET.out.drew, HST.out, hin, HBS.out⟩, by simp [intOf]; omega⟩
    · have hie : i = n' := by omega
      have hge := hinv.ge
      have hmost := hinv.most
      rw [HPL.out] at hmost
      have heq := hinv.eq
      rw [List.take_of_length_le (by rw [HQL.out]; omega), HX.out] at heq
      have hall := hinv.all
      obtain ⟨A9, c9, rfl⟩ := hown.form
      have hZ := hown.isZ rfl
      have hca := carry_any A9 zs.length c9 zs x heq (fun z hz => by have := hall z hz; omega) wr hZ (by omega)
      clear heq hall hinv
      go_wp2_with (with_reducible refine Calls.mono hca ?_; rintro e w2 ⟨⟨A1, n1, c1, rfl, hU, hfr⟩, hb2⟩)
      go_ret
      exact ⟨⟨A1, n1, c1, rfl, hU, hfr.mono hbel.size⟩, hbel.trans (hb2.mono hbel.size)⟩
end Go.Proofs.YtgfgpepdkffhbaaGreatDoor.Kl
