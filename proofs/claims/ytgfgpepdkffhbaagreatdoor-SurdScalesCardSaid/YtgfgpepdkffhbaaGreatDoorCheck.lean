/- integer.Check, for any bytes. -/
import Derived.Test.YtgfgpepdkffhbaaGreatDoorSign
import Derived.Test.YtgfgpepdkffhbaaGreatDoorQuick
namespace Go.Proofs.YtgfgpepdkffhbaaGreatDoor.Kl
open Go.RowKit Go.Shelf
set_option linter.unusedVariables false
set_option linter.unusedSimpArgs false

/-- the bytes write a right integer: canonical, of at most 200 digits. -/
def RightI (l : List UInt8) : Prop := ∃ x : Int, l = Lib.itoa x ∧ (Lib.decDigits x.natAbs).length ≤ 200

/-- the same by the bytes: a minus sign or none, then digits. -/
def OkD (m : Bool) (d : List UInt8) : Prop := d ≠ [] ∧ d.length ≤ 200 ∧ ¬ (d.head? = some 48 ∧ (1 < d.length ∨ m = true)) ∧ AllDg d

theorem pref_split (l : List UInt8) : l = (if Lib.hasPrefix l [45] then [45] else []) ++ Lib.trimPrefix l [45] := by
  unfold Lib.trimPrefix
  by_cases h : Lib.hasPrefix l [45] = true
  · rw [if_pos h, if_pos h]
    match l, h with
    | c :: t, h =>
      have hc : c = 45 := by simpa [Lib.hasPrefix, List.isPrefixOf] using (by simpa [Lib.hasPrefix, List.isPrefixOf] using h : (45 : UInt8) = c).symm
      simp [hc]
    | [], h => simp [Lib.hasPrefix] at h
  · rw [if_neg h, if_neg h]; rfl

theorem right_iff (l : List UInt8) : RightI l ↔ OkD (Lib.hasPrefix l [45]) (Lib.trimPrefix l [45]) := by
  constructor
  · rintro ⟨x, rfl, hlen⟩
    have h1 := pref_minus x
    have h2 := trim_minus x
    rw [txt_list] at h1 h2
    rw [h1, h2, itoa_nat]
    refine ⟨dec_ne _, hlen, ?_, dec_all _⟩
    rintro ⟨h48, hor⟩
    have h0 := dec_head _ h48
    rw [h0] at hor
    rcases hor with hor | hor
    · rw [dec_small (by omega)] at hor; simp at hor
    · simp at hor; omega
  · intro ⟨hne, hlen, hz, hall⟩
    have hs := pref_split l
    have hlead : Lead (Lib.trimPrefix l [45]) := ⟨hne, fun h48 => by
      have : ¬ 1 < (Lib.trimPrefix l [45]).length := fun h1 => hz ⟨h48, Or.inl h1⟩
      have : 0 < (Lib.trimPrefix l [45]).length := List.length_pos_iff.2 hne
      omega⟩
    by_cases hm : Lib.hasPrefix l [45] = true
    · rw [if_pos hm] at hs
      have h48 : Lib.trimPrefix l [45] ≠ [48] := fun e => hz ⟨by rw [e]; rfl, Or.inr hm⟩
      have := canon_neg hall hlead h48
      refine ⟨_, hs.trans this, ?_⟩
      rw [Int.natAbs_neg, Int.natAbs_natCast, dec_dval hall hlead]; exact hlen
    · rw [if_neg hm] at hs
      have := canon_pos hall hlead
      refine ⟨_, hs.trans this, ?_⟩
      rw [Int.natAbs_natCast, dec_dval hall hlead]; exact hlen

set_option maxRecDepth 100000 in
theorem check_walk (s : ByteArray) (m : Bool) (d : List UInt8) (hm : Lib.hasPrefix s.data.toList [45] = m) (hd : Lib.trimPrefix s.data.toList [45] = d) (hs : d.length ≤ 4294967296) (w : World) :
    Calls Tryz.prog 63 #[.string s] w fun e w' => (∃ c : Int, e = .returned (.int .i64 c) ∧ (OkD m d → c = 0) ∧ (¬ OkD m d → c = 2)) ∧ Below w.heap.size w w' := by
  have hc := Tryz.strings_CutPrefix s ⟨#[45]⟩ w
  rw [show (⟨#[45]⟩ : ByteArray).data.toList = [45] from rfl, hm, hd] at hc
  have hsz : (⟨d.toArray⟩ : ByteArray).size = d.length := by simp [ByteArray.size]
  clear hm hd
  by_cases h0 : d = []
  · subst h0
    go_enter Tryz.func63, Tryz.ntmps63
    go_wp2_with (with_reducible refine Calls.mono hc ?_; rintro e w1 ⟨rfl, rfl⟩)
    go_ret
    exact ⟨⟨2, rfl, fun h => absurd rfl h.1, fun _ => rfl⟩, Below.refl _ _⟩
  · by_cases h200 : 200 < d.length
    · go_enter Tryz.func63, Tryz.ntmps63
      go_wp2_with (with_reducible refine Calls.mono hc ?_; rintro e w1 ⟨rfl, rfl⟩)
      go_ret
      exact ⟨⟨2, rfl, fun h => absurd h.2.1 (by omega), fun _ => rfl⟩, Below.refl _ _⟩
    · have he : d.isEmpty = false := by simpa using h0
      have hpos : 0 < d.length := List.length_pos_iff.2 h0
      have hlt0 : 0 < (⟨d.toArray⟩ : ByteArray).size := by rw [hsz]; exact hpos
      obtain ⟨c, hcc⟩ : ∃ c, (⟨d.toArray⟩ : ByteArray)[0]'hlt0 = c := ⟨_, rfl⟩
      have hhd : d.head? = some c := by
        rw [List.head?_eq_getElem?, List.getElem?_eq_getElem hpos, ← hcc]; rfl
      have HH := Lib.hid hhd; clear hhd
      have hd200 : decide (200 < (d.length : Int)) = false := by simp; omega
      by_cases hbad : c.toNat = 48 ∧ (1 < d.length ∨ m = true)
      · have hc48 : (c.toNat : Int) = 48 := by omega
        have hr : ¬ OkD m d := fun h => h.2.2.1 ⟨by rw [HH.out]; congr 1; exact UInt8.toNat_inj.1 (by rw [hbad.1]; rfl), hbad.2⟩
        have HR := Lib.hid hr; clear hr
        by_cases h1 : 1 < d.length
        · have hd1 : decide (1 < (d.length : Int)) = true := by simp; omega
          go_enter Tryz.func63, Tryz.ntmps63
          go_wp2_with (with_reducible refine Calls.mono hc ?_; rintro e w1 ⟨rfl, rfl⟩)
          go_ret
          exact ⟨⟨2, rfl, fun h => absurd h HR.out, fun _ => rfl⟩, Below.refl _ _⟩
        · have hd1 : decide (1 < (d.length : Int)) = false := by simp; omega
          have hm1 : m = true := by rcases hbad.2 with h | h; omega; exact h
          subst hm1
          go_enter Tryz.func63, Tryz.ntmps63
          go_wp2_with (with_reducible refine Calls.mono hc ?_; rintro e w1 ⟨rfl, rfl⟩)
          go_ret
          exact ⟨⟨2, rfl, fun h => absurd h HR.out, fun _ => rfl⟩, Below.refl _ _⟩
      · have hgood : ¬ (d.head? = some 48 ∧ (1 < d.length ∨ m = true)) := fun h => hbad ⟨by have := HH.out.symm.trans h.1; cases this; rfl, h.2⟩
        have HG := Lib.hid hgood; clear hgood
        have hor : ¬ (c.toNat : Int) = 48 ∨ ((c.toNat : Int) = 48 ∧ decide (1 < (d.length : Int)) = false ∧ m = false) := by
          by_cases h48 : c.toNat = 48
          · refine Or.inr ⟨by omega, by simp; exact Int.not_lt.1 (fun h => hbad ⟨h48, Or.inl (by omega)⟩), by cases m; rfl; exact absurd ⟨h48, Or.inr rfl⟩ hbad⟩
          · exact Or.inl (by omega)
        clear hbad
        rcases hor with hne | ⟨h48, hd1, hm1⟩
        · go_enter Tryz.func63, Tryz.ntmps63
          go_wp2_with (with_reducible refine Calls.mono hc ?_; rintro e w1 ⟨rfl, rfl⟩)
          go_loopw [33] (fun v wr => ∃ k : Nat, v = .int .i64 (k : Int) ∧ k ≤ d.length ∧ RowKit.Hid (∀ j c, j < k → d[j]? = some c → IsDg c) ∧ Below w1.heap.size w1 wr) (fun v _ => d.length - (intOf v).toNat)
          case atStart => exact ⟨0, rfl, Nat.zero_le _, fun j c hj => absurd hj (Nat.not_lt_zero _), Below.refl _ _⟩
          case round =>
            obtain ⟨k, rfl, hk, hall, hbel⟩ := hrel
            by_cases hkl : k < d.length
            · have hltk : k < (⟨d.toArray⟩ : ByteArray).size := by rw [hsz]; exact hkl
              obtain ⟨u, hu⟩ : ∃ u, (⟨d.toArray⟩ : ByteArray)[k]'hltk = u := ⟨_, rfl⟩
              have huk : d[k]? = some u := by
                rw [List.getElem?_eq_getElem hkl, ← hu]; rfl
              have HUK := Lib.hid huk; clear huk
              by_cases hg : IsDg u
              · have hg1 : ¬ (u.toNat : Int) < 48 := by unfold IsDg at hg; omega
                have hg2 : ¬ 57 < (u.toNat : Int) := by unfold IsDg at hg; omega
                have hn : ∀ j c, j < k + 1 → d[j]? = some c → IsDg c := fun j c hj hc => by
                  rcases Nat.lt_or_ge j k with h | h
                  · exact hall.out j c h hc
                  · have : j = k := by omega
                    subst this
                    rw [HUK.out] at hc; cases hc; exact hg
                have HN := Lib.hid hn; clear hn hg
                go_wp2_with fail
                exact ⟨⟨k + 1, by simp, hkl, HN, hbel⟩, by simp [intOf]; omega⟩
              · have hr : ¬ OkD m d := fun h => hg (h.2.2.2 u (List.mem_of_getElem? HUK.out))
                have HR := Lib.hid hr; clear hr
                by_cases hg1 : (u.toNat : Int) < 48
                · clear hg
                  go_wp2_with fail
                  go_ret
                  exact ⟨⟨2, rfl, fun h => absurd h HR.out, fun _ => rfl⟩, hbel⟩
                · have hg2 : 57 < (u.toNat : Int) := by unfold IsDg at hg; omega
                  clear hg
                  go_wp2_with fail
                  go_ret
                  exact ⟨⟨2, rfl, fun h => absurd h HR.out, fun _ => rfl⟩, hbel⟩
            · have hok : OkD m d := ⟨h0, by omega, HG.out, fun c hc => by
                obtain ⟨j, hj, e⟩ := List.getElem_of_mem hc
                exact hall.out j c (by omega) (by rw [List.getElem?_eq_getElem hj, e])⟩
              have HOK := Lib.hid hok; clear hok
              go_wp2_with fail
              go_ret
              exact ⟨⟨0, rfl, fun _ => rfl, fun h => absurd HOK.out h⟩, hbel⟩
        · subst hm1
          go_enter Tryz.func63, Tryz.ntmps63
          go_wp2_with (with_reducible refine Calls.mono hc ?_; rintro e w1 ⟨rfl, rfl⟩)
          go_loopw [33] (fun v wr => ∃ k : Nat, v = .int .i64 (k : Int) ∧ k ≤ d.length ∧ RowKit.Hid (∀ j c, j < k → d[j]? = some c → IsDg c) ∧ Below w1.heap.size w1 wr) (fun v _ => d.length - (intOf v).toNat)
          case atStart => exact ⟨0, rfl, Nat.zero_le _, fun j c hj => absurd hj (Nat.not_lt_zero _), Below.refl _ _⟩
          case round =>
            obtain ⟨k, rfl, hk, hall, hbel⟩ := hrel
            by_cases hkl : k < d.length
            · have hltk : k < (⟨d.toArray⟩ : ByteArray).size := by rw [hsz]; exact hkl
              obtain ⟨u, hu⟩ : ∃ u, (⟨d.toArray⟩ : ByteArray)[k]'hltk = u := ⟨_, rfl⟩
              have huk : d[k]? = some u := by
                rw [List.getElem?_eq_getElem hkl, ← hu]; rfl
              have HUK := Lib.hid huk; clear huk
              by_cases hg : IsDg u
              · have hg1 : ¬ (u.toNat : Int) < 48 := by unfold IsDg at hg; omega
                have hg2 : ¬ 57 < (u.toNat : Int) := by unfold IsDg at hg; omega
                have hn : ∀ j c, j < k + 1 → d[j]? = some c → IsDg c := fun j c hj hc => by
                  rcases Nat.lt_or_ge j k with h | h
                  · exact hall.out j c h hc
                  · have : j = k := by omega
                    subst this
                    rw [HUK.out] at hc; cases hc; exact hg
                have HN := Lib.hid hn; clear hn hg
                go_wp2_with fail
                exact ⟨⟨k + 1, by simp, hkl, HN, hbel⟩, by simp [intOf]; omega⟩
              · have hr : ¬ OkD false d := fun h => hg (h.2.2.2 u (List.mem_of_getElem? HUK.out))
                have HR := Lib.hid hr; clear hr
                by_cases hg1 : (u.toNat : Int) < 48
                · clear hg
                  go_wp2_with fail
                  go_ret
                  exact ⟨⟨2, rfl, fun h => absurd h HR.out, fun _ => rfl⟩, hbel⟩
                · have hg2 : 57 < (u.toNat : Int) := by unfold IsDg at hg; omega
                  clear hg
                  go_wp2_with fail
                  go_ret
                  exact ⟨⟨2, rfl, fun h => absurd h HR.out, fun _ => rfl⟩, hbel⟩
            · have hok : OkD false d := ⟨h0, by omega, HG.out, fun c hc => by
                obtain ⟨j, hj, e⟩ := List.getElem_of_mem hc
                exact hall.out j c (by omega) (by rw [List.getElem?_eq_getElem hj, e])⟩
              have HOK := Lib.hid hok; clear hok
              go_wp2_with fail
              go_ret
              exact ⟨⟨0, rfl, fun _ => rfl, fun h => absurd HOK.out h⟩, hbel⟩

/-- Check of the bytes of a right integer, and of others. -/
theorem checkI_any (s : ByteArray) (hs : s.size ≤ 4294967296) (w : World) :
    Calls Tryz.prog 63 #[.string s] w fun e w' => (∃ c : Int, e = .returned (.int .i64 c) ∧ (RightI s.data.toList → c = 0) ∧ (¬ RightI s.data.toList → c = 2)) ∧ Below w.heap.size w w' := by
  rw [right_iff]
  refine check_walk s _ _ rfl rfl ?_ w
  have := Lib.size_eq s
  unfold Lib.trimPrefix
  split
  · rw [List.length_drop]; omega
  · omega
end Go.Proofs.YtgfgpepdkffhbaaGreatDoor.Kl
