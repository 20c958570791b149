/- The walks of integer.small (a number times one piece) and integer.open (the pieces of a numeral). -/
import Derived.Test.YtgfgpepdkffhbaaGreatDoorTimes
import Derived.Test.YtgfgpepdkffhbaaGreatDoorBase
import Derived.Test.YtgfgpepdkffhbaaGreatDoorApp
import Derived.Outline
import Derived.Lib.IndexBytes
import Derived.Deep.RegionLaw
import Derived.Deep.RegionLawGrows
namespace Go.Proofs.YtgfgpepdkffhbaaGreatDoor.Kl
open Go.RowKit
open Go.Lib (itoa)
set_option linter.unusedVariables false
set_option linter.unusedSimpArgs false

theorem pcs_one {d : Nat} (h : d < 1000000000) : pcs 1000000000 d = trimL [d] := by
  rw [trim_pcs' (B := 1000000000) (by decide) (Dig.one h)]; simp [val]

set_option maxRecDepth 100000 in
set_option maxHeartbeats 1000000 in
theorem small_any (A : Option Addr) (n c : Nat) (x d : Nat) (w : World) (h : IsU .u64 w w.heap.size A n c (pcs 1000000000 x)) (hm : n ≤ 4294967296) (hd : d < 1000000000) :
    Calls Tryz.prog 125 #[.slice A n c, .int .u64 (d : Int)] w fun e w' => (∃ A1 n1 c1, e = .returned (.slice A1 n1 c1) ∧ IsU .u64 w' w'.heap.size A1 n1 c1 (pcs 1000000000 (x * d)) ∧ Fresh w.heap.size A1) ∧ Below w.heap.size w w' := by
  have hb1 : Below w.heap.size w (w.alloc (.cells #[.int .u64 (d : Int)] 145)) := (Below.refl _ _).alloc (Nat.le_refl _) _
  have h1 : IsU .u64 (w.alloc (.cells #[.int .u64 (d : Int)] 145)) (w.alloc (.cells #[.int .u64 (d : Int)] 145)).heap.size A n c (pcs 1000000000 x) := h.to hb1 (Nat.le_refl _)
  have h2 : IsU .u64 (w.alloc (.cells #[.int .u64 (d : Int)] 145)) (w.alloc (.cells #[.int .u64 (d : Int)] 145)).heap.size (some ⟨w.heap.size, 0, none⟩) 1 1 [d] := by
    refine ⟨rfl, Nat.le_refl _, rfl, fun _ => ⟨⟨w.heap.size, 0, none⟩, rfl, by simp, fun j u hu => ?_⟩⟩
    exact cell_one_new w (.int .u64 (d : Int)) 145 j u hu
  have h3 : IsU .u64 (w.alloc (.cells #[.int .u64 (d : Int)] 145)) (w.alloc (.cells #[.int .u64 (d : Int)] 145)).heap.size (some ⟨w.heap.size, 0, none⟩) (trimL [d]).length 1 (pcs 1000000000 d) := by
    rw [pcs_one hd]; exact h2.trim
  have hl : (trimL [d]).length ≤ 1 := trimL_le [d]
  obtain ⟨W1, hW1⟩ : ∃ W1, W1 = w.alloc (.cells #[.int .u64 (d : Int)] 145) := ⟨_, rfl⟩
  rw [← hW1] at hb1 h1 h2 h3
  have HW := Lib.hid hW1; clear hW1
  go_enter Tryz.func125, Tryz.ntmps125
  go_wp2_with fail
  rw [← HW.out]
  refine (trim_any _ 1 1 [d] W1 h2 (by omega)).mono ?_
  rintro e w' ⟨rfl, rfl⟩
  go_wp2_with fail
  refine (times_any A _ n _ c 1 x d W1 h1 h3 hm (by omega)).mono ?_
  rintro e w' ⟨⟨A1, n1, c1, rfl, hU, hfr⟩, hb⟩
  go_wp2
  go_ret
  exact ⟨⟨A1, n1, c1, rfl, hU, hfr.mono hb1.size⟩, hb1.trans (hb.mono hb1.size)⟩

/-- strings.CutPrefix(a, "-") of a numeral. -/
theorem cutMinus_any (x : Int) (w : World) :
    Calls Tryz.prog 103 #[.string (txt x), .string ⟨#[45]⟩] w fun e w' => e = .returned (.tuple #[.string ⟨(Lib.decDigits x.natAbs).toArray⟩, .bool (decide (x < 0))]) ∧ w = w' := by
  refine (Tryz.strings_CutPrefix (txt x) ⟨#[45]⟩ w).mono ?_
  rintro e w' ⟨rfl, rfl⟩
  have h1 : Lib.trimPrefix (txt x).data.toList [45] = Lib.decDigits x.natAbs ∧ Lib.hasPrefix (txt x).data.toList [45] = decide (x < 0) := by
    rw [txt_list]
    by_cases hx : x < 0
    · rw [itoa_neg' hx]
      simp [Lib.trimPrefix, Lib.hasPrefix, hx]
    · rw [itoa_pos' (by omega)]
      have h45 := dec_not45 x.natAbs
      have hne := dec_ne x.natAbs
      match hd : Lib.decDigits x.natAbs, hne with
      | c :: t, _ =>
        have hc : c ≠ 45 := fun e => h45 (by rw [hd, e]; rfl)
        have hc' : ¬ (45 : UInt8) = c := fun e => hc e.symm
        simp [Lib.trimPrefix, Lib.hasPrefix, hx, hc, hc', List.isPrefixOf]
  refine ⟨?_, rfl⟩
  rw [show (⟨#[45]⟩ : ByteArray).data.toList = [45] from rfl, h1.1, h1.2]

def strLen : Value → Nat
  | .string s => s.size
  | _ => 0
theorem strLen_mk (l : List UInt8) : strLen (.string ⟨l.toArray⟩) = l.length := by simp [strLen, ByteArray.size]

theorem bytes_ext {a b : ByteArray} (h : a.data.toList = b.data.toList) : a = b := by
  cases a; cases b; congr 1; exact Array.toList_inj.1 h

/-- digits in front, and the pieces that have been taken off the end. -/
structure OpenInv (D : List UInt8) (j : Nat) (ps : List Nat) : Prop where
  at_ : j = D.length - 9 * ps.length
  dig : Dig 1000000000 ps
  eq : val 1000000000 ps + 1000000000 ^ ps.length * dval (D.take j) = dval D
  le : 9 * ps.length ≤ D.length + 8

theorem OpenInv.zero (D : List UInt8) : OpenInv D D.length [] := ⟨by simp, Dig.nil _, by simp [val], by simp⟩

theorem OpenInv.step {D : List UInt8} {j : Nat} {ps : List Nat} (h : OpenInv D j ps) (hD : AllDg D) (hj : 0 < j) : OpenInv D (j - 9) (ps ++ [dval ((D.take j).drop (j - 9))]) := by
  obtain ⟨h1, h2, h3, h4⟩ := h
  have hjl : j ≤ D.length := by omega
  have hl : ((D.take j).drop (j - 9)).length = j - (j - 9) := by rw [List.length_drop, List.length_take]; omega
  have hlt : dval ((D.take j).drop (j - 9)) < 1000000000 := by
    have := dval_lt ((hD.take j).drop (j - 9))
    have h9 : 10 ^ ((D.take j).drop (j - 9)).length ≤ 10 ^ 9 := Nat.pow_le_pow_right (by decide) (by omega)
    omega
  refine ⟨by simp; omega, h2.app (Dig.one hlt), ?_, by simp; omega⟩
  have e : dval (D.take j) = dval (D.take (j - 9)) * 10 ^ (j - (j - 9)) + dval ((D.take j).drop (j - 9)) := by
    have e1 := List.take_append_drop (j - 9) (D.take j)
    rw [List.take_take, Nat.min_eq_left (by omega)] at e1
    have := dval_append (D.take (j - 9)) ((D.take j).drop (j - 9))
    rw [e1, hl] at this
    exact this
  rw [val_snoc, List.length_append, List.length_singleton, Nat.pow_succ, ← h3, e]
  rcases Nat.lt_or_ge j 10 with h10 | h10
  · rw [show j - 9 = 0 by omega]
    simp [dval_nil]
  · rw [show j - (j - 9) = 9 by omega, show (10 : Nat) ^ 9 = 1000000000 from rfl, Nat.mul_add, Nat.mul_comm (dval (D.take (j - 9))) 1000000000, ← Nat.mul_assoc]
    omega

theorem OpenInv.fin {D : List UInt8} {j : Nat} {ps : List Nat} (h : OpenInv D j ps) (hj : j = 0) : trimL ps = pcs 1000000000 (dval D) := by
  obtain ⟨h1, h2, h3, h4⟩ := h
  subst hj
  rw [trim_pcs' (by decide) h2, ← h3]
  simp [dval_nil]

set_option maxRecDepth 100000 in
set_option maxHeartbeats 1000000 in
theorem open_any (x : Int) (w : World) (hm : (itoa x).length ≤ 4294967296) :
    Calls Tryz.prog 67 #[.string (txt x)] w fun e w' => (∃ A1 n1 c1, e = .returned (.agg #[.bool (decide (x < 0)), .slice A1 n1 c1]) ∧ IsU .u64 w' w'.heap.size A1 n1 c1 (pcs 1000000000 x.natAbs)) ∧ Below w.heap.size w w' := by
  obtain ⟨D, hD⟩ : ∃ D, D = Lib.decDigits x.natAbs := ⟨_, rfl⟩
  have hall : AllDg D := hD ▸ dec_all _
  have hval : dval D = x.natAbs := by rw [hD, dval_dec]
  have hlen : D.length ≤ 4294967296 := by
    rw [hD]
    by_cases hx : x < 0
    · rw [itoa_neg' hx] at hm; simp at hm; omega
    · rw [itoa_pos' (by omega)] at hm; exact hm
  obtain ⟨P, hP⟩ : ∃ P, P = pcs 1000000000 x.natAbs := ⟨_, rfl⟩
  rw [← hP]
  rw [← hval] at hP
  obtain ⟨bx, hbx⟩ : ∃ bx, bx = decide (x < 0) := ⟨_, rfl⟩
  rw [← hbx]
  have HD := Lib.hid hD; clear hD
  have HP := Lib.hid hP; clear hP
  have HB := Lib.hid hbx; clear hbx
  have HA := Lib.hid hall; clear hall
  clear hval hm
  obtain ⟨i0, hi0, hz0, hz1, hz2⟩ := info_parts info_u64
  have hsz : (⟨D.toArray⟩ : ByteArray).size = D.length := by simp [ByteArray.size]
  go_enter Tryz.func67, Tryz.ntmps67
  go_wp2_with (first
    | (go_at_call 103; refine (cutMinus_any x _).mono ?_; rintro e w' ⟨rfl, rfl⟩; rw [← HD.out, ← HB.out])
    | (at_make; refine wpList_make_own _ rfl _ _ 109 rfl (w.heap.size + 1) 145 i0 (.int .u64 0) 1 Tryz.underlying109 hi0 hz0 hz1 .i64 .i64 _ (D.length / 9 + 1) rfl rfl (by omega) (by rw [hz2]; omega) (by unfold maxLen; omega) (by simp) ?_; intro w0 hown0 hgrow0))
  have hb0 : Below w.heap.size w w0 := ((Below.refl _ _).alloc (Nat.le_refl _) _).grown hgrow0 (by simp) (by simp)
  have hc0 : w0.heap[w.heap.size]? = some (.cells #[.bool false, .slice none 0 0] 111 (0, 0)) := (hgrow0.block w.heap.size (by simp) (by simp)).trans (heap_alloc_new w _)
  rw [World.size_alloc] at hown0
  have ho0 : Own .u64 145 w0 (w.heap.size + 1) (.slice (some ⟨w.heap.size + 1, 0, none⟩) 0 (D.length / 9 + 1)) [] := hown0
  clear hown0 hgrow0
  go_loopw [3, 5] (fun sv v wr => ∃ (j : Nat) (ps : List Nat), sv = .string ⟨(D.take j).toArray⟩ ∧ Own .u64 145 wr (w.heap.size + 1) v ps ∧ OpenInv D j ps ∧ wr.heap[w.heap.size]? = some (.cells #[.bool false, .slice none 0 0] 111 (0, 0)) ∧ Below w.heap.size w wr)
    (fun sv _ _ => strLen sv)
  case atStart => exact ⟨D.length, [], by rw [List.take_length], ho0, OpenInv.zero D, hc0, hb0⟩
  case round =>
    obtain ⟨j, ps, rfl, hown, hinv, hc, hbel⟩ := hrel
    have hj := hinv.at_
    have hjl : j ≤ D.length := by omega
    have hszj : (⟨(D.take j).toArray⟩ : ByteArray).size = j := by simp [ByteArray.size, List.length_take]; omega
    have HJ := Lib.hid hj
    by_cases h0 : 0 < j
    · have hst := hinv.step HA.out h0
      have HS := Lib.hid hst; clear hst hinv
      have hpl : ps.length ≤ 4294967296 := by omega
      clear hj
      have em : max ((j : Int) - 9) 0 = ((j - 9 : Nat) : Int) := by omega
      have EM := Lib.hid em; clear em
      have ex : (⟨(D.take j).toArray⟩ : ByteArray).extract (j - 9) j = ⟨((D.take j).drop (j - 9)).toArray⟩ := by
        have := Lib.extract_data (⟨(D.take j).toArray⟩ : ByteArray) (j - 9) j
        apply bytes_ext
        rw [this]
        exact List.take_of_length_le (by simp [List.length_take]; omega)
      have ex0 : (⟨(D.take j).toArray⟩ : ByteArray).extract 0 (j - 9) = ⟨(D.take (j - 9)).toArray⟩ := by
        have := Lib.extract_data (⟨(D.take j).toArray⟩ : ByteArray) 0 (j - 9)
        apply bytes_ext
        rw [this]
        simp [List.take_take, Nat.min_eq_left]
      have EX0 := Lib.hid ex0; clear ex0
      have EX := Lib.hid ex; clear ex
      have hch : ((D.take j).drop (j - 9)).length = j - (j - 9) := by rw [List.length_drop, List.length_take]; omega
      have hcne : (D.take j).drop (j - 9) ≠ [] := fun e => by rw [e] at hch; simp at hch; omega
      have hca : AllDg ((D.take j).drop (j - 9)) := (HA.out.take j).drop _
      obtain ⟨C, hC⟩ : ∃ C, C = (D.take j).drop (j - 9) := ⟨_, rfl⟩
      rw [← hC] at hch hcne hca
      have HC := Lib.hid hC; clear hC
      have HCA := Lib.hid hca; clear hca
      have HCN := Lib.hid hcne; clear hcne
      have HCH := Lib.hid hch; clear hch
      go_wp2_with fail
      rw [EM.out, Int.toNat_natCast, EX.out, ← HC.out]
      refine (parseUint_any ⟨C.toArray⟩ (by simpa using HCA.out) (by simpa using HCN.out) (by have := HCH.out; simp [ByteArray.size]; omega) wr).mono ?_
      rintro e w1 ⟨rfl, hb1⟩
      simp only []
      have hW1 : Below w.heap.size w w1 := hbel.trans (hb1.mono hbel.size)
      have hc1 : w1.heap[w.heap.size]? = some (.cells #[.bool false, .slice none 0 0] 111 (0, 0)) := (hb1.block _ (lt_of_heap hc)).trans hc
      have ho1 := hown.below hb1
      go_wp2
      go_region_law (refine step_append_one _ rfl _ _ 109 rfl (w.heap.size + 1) 145 i0 (.int .u64 0) 8 Tryz.underlying109 hi0 hz0 hz1 hz2 rfl .u64 _ ps (by simp [Act.eval, Act.put]) (ho1.alloc _) w1.heap.size 1 _ (dval C) rfl (by simp [Act.eval, Act.put]) (by simp) (by unfold maxLen; omega) (by omega) (by have := hW1.size; simp; omega) ?_; intro v' w2 hown' hgrow)
      have hb2 : Below w.heap.size w w2 := ((hW1.alloc hW1.size _).drew).grown hgrow (by have := hW1.size; simp; omega) (fun g hg => by have := own_base' ho1 g hg; omega)
      have hc2 : w2.heap[w.heap.size]? = some (.cells #[.bool false, .slice none 0 0] 111 (0, 0)) := by
        refine (hgrow.block w.heap.size (by have := hW1.size; simp; omega) (fun hg => by have := own_base' ho1 _ hg.symm; omega)).trans ?_
        exact (Below.heap_alloc w1 _ _ (lt_of_heap hc1)).trans hc1
      have HS2 := HS.out
      rw [← HC.out] at HS2
      have HS3 := Lib.hid HS2; clear HS2 HS hgrow hown ho1 hb1 hbel hc hc1
      rw [EX0.out]
      go_simp
      go_wp2
      go_roundw
      case rel => exact ⟨j - 9, _, rfl, hown', HS3.out, hc2, hb2⟩
      case measure => simp only [strLen_mk, List.length_take]; omega
    · have hfin := hinv.fin (by omega)
      rw [← HP.out] at hfin
      have hle := hinv.le
      have hpl : ps.length ≤ 4294967296 := by omega
      obtain ⟨A1, c1, rfl, hU⟩ := hown.form' (n := ps.length) rfl
      have HF := Lib.hid hfin; clear hfin hinv hj hle
      have hcell0 : wr.cell? ⟨w.heap.size, 0, none⟩ = some (.bool false) := by rw [Lib.cell_of_heap hc]; rfl
      have hcell1 : wr.cell? ⟨w.heap.size, 1, none⟩ = some (.slice none 0 0) := by rw [Lib.cell_of_heap hc]; rfl
      have hf0 : wr.frozen? ⟨w.heap.size, 0, none⟩ = false := Lib.frozen_of_heap hc 0
      have hf1 : wr.frozen? ⟨w.heap.size, 1, none⟩ = false := Lib.frozen_of_heap hc 1
      go_wp2_with (go_at_call 109; refine (trim_any A1 _ c1 _ _ hU (by omega)).mono ?_; rintro e w' ⟨rfl, rfl⟩)
      have hne : ∀ (W : World) (q : Addr) (u : Value), q.block = w.heap.size → ∀ g, w.heap.size + 1 ≤ g → (W.setCell q u).heap[g]? = W.heap[g]? := fun W q u hq g hg => Below.heap_setCell W q u g (by omega)
      have hown2 : Own .u64 145 ((wr.setCell ⟨w.heap.size, 0, none⟩ (.bool bx)).setCell ⟨w.heap.size, 1, none⟩ (.slice A1 (trimL ps).length c1)) (w.heap.size + 1) (.slice A1 ps.length c1) ps :=
        hown.keep fun g _ hg => (hne _ _ _ rfl g hg).trans (hne _ _ _ rfl g hg)
      have hT := hown2.isU.trim
      rw [HF.out] at hT
      have hbl : Below w.heap.size w ((wr.setCell ⟨w.heap.size, 0, none⟩ (.bool bx)).setCell ⟨w.heap.size, 1, none⟩ (.slice A1 (trimL ps).length c1)) :=
        (hbel.setCell (p := ⟨w.heap.size, 0, none⟩) (Nat.le_refl _) _).setCell (p := ⟨w.heap.size, 1, none⟩) (Nat.le_refl _) _
      rw [HF.out] at hbl ⊢
      have d0 : ((wr.setCell ⟨w.heap.size, 0, none⟩ (.bool bx)).setCell ⟨w.heap.size, 1, none⟩ (.slice A1 P.length c1)).cell? ⟨w.heap.size, 0, none⟩ = some (.bool bx) := by
        rw [World.cell?_setCell_other _ _ _ _ (by simp)]
        exact World.cell?_setCell_same _ _ _ hcell0
      have d1' : (wr.setCell ⟨w.heap.size, 0, none⟩ (.bool bx)).cell? ⟨w.heap.size, 1, none⟩ = some (.slice none 0 0) := by
        rw [World.cell?_setCell_other _ _ _ _ (by simp)]; exact hcell1
      have d1 : ((wr.setCell ⟨w.heap.size, 0, none⟩ (.bool bx)).setCell ⟨w.heap.size, 1, none⟩ (.slice A1 P.length c1)).cell? ⟨w.heap.size, 1, none⟩ = some (.slice A1 P.length c1) :=
        World.cell?_setCell_same _ _ _ d1'
      exact bodyPost_ret (v := .agg #[.bool bx, .slice A1 P.length c1]) (by simp [results, Tryz.results67, go_sem, d0, d1]) rfl ⟨⟨A1, _, c1, rfl, hT⟩, hbl⟩

end Go.Proofs.YtgfgpepdkffhbaaGreatDoor.Kl
