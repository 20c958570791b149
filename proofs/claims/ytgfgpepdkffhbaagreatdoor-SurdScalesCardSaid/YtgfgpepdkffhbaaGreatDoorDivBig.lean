/- The walk of integer.divide: long division. -/
import Derived.Test.YtgfgpepdkffhbaaGreatDoorDivOne
import Derived.Test.YtgfgpepdkffhbaaGreatDoorDivNums
import Derived.Test.YtgfgpepdkffhbaaGreatDoorMinus
import Derived.Deep.CutRange
namespace Go.Proofs.YtgfgpepdkffhbaaGreatDoor.Kl
open Go.RowKit Go.Shelf
set_option linter.unusedVariables false
set_option linter.unusedSimpArgs false

theorem cell1 {w : World} {b : Nat} {v : Value} {T : TypeId} {fz : Nat × Nat} (h : w.heap[b]? = some (.cells #[v] T fz)) : w.cell? ⟨b, 0, none⟩ = some v := by
  rw [Lib.cell_of_heap h]; rfl
theorem froz1 {w : World} {b : Nat} {v : Value} {T : TypeId} (h : w.heap[b]? = some (.cells #[v] T (0, 0))) : w.frozen? ⟨b, 0, none⟩ = false := Lib.frozen_of_heap h 0

theorem own_row {k : IntKind} {e : TypeId} {w : World} {base g n c : Nat} {xs : List Nat} (h : Own k e w base (.slice (some ⟨g, 0, none⟩) n c) xs) (hl : xs.length = n) : w.ownsRow base e 1 (.slice (some ⟨g, 0, none⟩) n c) n (us k xs) := by
  unfold Own at h; rwa [hl] at h
theorem row_cell {k : IntKind} {e : TypeId} {w : World} {base g n c i o : Nat} {xs : List Nat} (h : w.ownsRow base e 1 (.slice (some ⟨g, 0, none⟩) n c) n (us k xs)) (hi : i < n) (hx : xs[i]? = some o) : w.cell? ⟨g, i, none⟩ = some (.int k (o : Int)) := by
  rw [h.cellAt i (by omega), us_get, hx]; rfl

theorem piece_pos {k n : Nat} (h : n = k + 1) : ((n : Int) == 1) = decide (k = 0) := by
  subst h
  by_cases h : k = 0 <;> simp [h] <;> omega

theorem div_small (A A' : Option Addr) (n c c' : Nat) (x d : Nat) (hd : 0 < d) (hdb : d < 1000000000) (w : World) (h : IsU .u64 w w.heap.size A n c (pcs 1000000000 x)) (h' : IsU .u64 w w.heap.size A' 1 c' [d]) (hm : n ≤ 4294967296) :
    Calls Tryz.prog 106 #[.slice A n c, .slice A' 1 c'] w fun e w' => DivRes x d e w' ∧ Below w.heap.size w w' := by
  rcases Nat.lt_or_ge x d with hlt | hge
  · refine div_less A A' n 1 c c' x d hlt w h ?_ hm (by decide)
    rw [pcs_one hdb, show [d] = ([] : List Nat) ++ [d] from rfl, trimL_snoc_pos _ (by omega)]
    exact h'
  · exact div_one A A' n c c' x d hd hdb hge w h h' hm

set_option maxRecDepth 100000 in
set_option maxHeartbeats 8000000 in
theorem div_big (A A' : Option Addr) (n n' c c' : Nat) (x y k : Nat) (hxy : y ≤ x) (hk1 : 1 ≤ k) (h0 : 1000000000 ^ k ≤ y) (h1 : y < 1000000000 ^ (k + 1)) (w : World) (h : IsU .u64 w w.heap.size A n c (pcs 1000000000 x)) (h' : IsU .u64 w w.heap.size A' n' c' (pcs 1000000000 y))
    (hm : n ≤ 2147483648) (hm' : n' ≤ 2147483648) :
    Calls Tryz.prog 106 #[.slice A n c, .slice A' n' c'] w fun e w' => DivRes x y e w' ∧ Below w.heap.size w w' := by
  have hsc := scale (by decide) h0 h1
  have htop := pcs_top (by decide) h0 h1
  have hlk := pcs_len_of (by decide) h0 h1
  obtain rfl : n' = k + 1 := by rw [← h'.len]; exact hlk
  have hcmp : 0 ≤ cmpN x y := by unfold cmpN; split; omega; split <;> omega
  have HC := Lib.hid hcmp; clear hcmp
  have hL1 : 1 ≤ y / 1000000000 ^ k := (Nat.one_le_div_iff (Nat.pow_pos (by decide))).2 h0
  have hL2 : y / 1000000000 ^ k < 1000000000 := by
    apply Nat.div_lt_of_lt_mul
    rwa [Nat.pow_succ] at h1
  obtain ⟨L, hL⟩ : ∃ L, y / 1000000000 ^ k = L := ⟨_, rfl⟩
  rw [hL] at hsc htop hL1 hL2
  obtain ⟨f, hf⟩ : ∃ f, 1000000000 / (L + 1) = f := ⟨_, rfl⟩
  rw [hf] at hsc
  have hf0 := hsc.fpos
  have hf1 := hsc.flt
  have hf' : (1000000000 : Int) / ((L : Int) + 1) = (f : Int) := by rw [← hf]; simp
  have HSC := Lib.hid hsc
  have HF := Lib.hid hf
  have HTOP := Lib.hid htop
  have HK0 := Lib.hid h0
  have HK1 := Lib.hid h1
  clear hsc hf htop hL hlk h0 h1
  have hb1 : Below w.heap.size w ((w.alloc (.cells #[.slice A' (k + 1) c'] 109)).alloc (.cells #[.slice none 0 0] 109)) := ((Below.refl _ _).alloc (Nat.le_refl _) _).alloc (by simp) _
  have h1 := h.to hb1 (Nat.le_refl _)
  have h1' := h'.to hb1 (Nat.le_refl _)
  have hba : ((w.alloc (.cells #[.slice A' (k + 1) c'] 109)).alloc (.cells #[.slice none 0 0] 109)).heap[w.heap.size]? = some (.cells #[.slice A' (k + 1) c'] 109 (0, 0)) :=
    (Below.heap_alloc _ _ _ (by simp)).trans (heap_alloc_new w _)
  have hbb : ((w.alloc (.cells #[.slice A' (k + 1) c'] 109)).alloc (.cells #[.slice none 0 0] 109)).heap[w.heap.size + 1]? = some (.cells #[.slice none 0 0] 109 (0, 0)) := by
    have := heap_alloc_new (w.alloc (.cells #[.slice A' (k + 1) c'] 109)) (.cells #[.slice none 0 0] 109)
    rwa [World.size_alloc] at this
  obtain ⟨W0, hW0⟩ : ∃ W0, W0 = (w.alloc (.cells #[.slice A' (k + 1) c'] 109)).alloc (.cells #[.slice none 0 0] 109) := ⟨_, rfl⟩
  have hs0 : w.heap.size + 1 < W0.heap.size := by rw [hW0]; simp
  rw [← hW0] at hb1 h1 h1' hba hbb
  have HW := Lib.hid hW0; clear hW0
  go_enter Tryz.func106, Tryz.ntmps106
  go_wp2_with fail
  rw [← HW.out]
  refine (order_any A A' n (k + 1) c c' x y W0 h1 h1' (by omega) (by omega)).mono ?_
  rintro e w1 ⟨rfl, hb2⟩
  obtain ⟨cm, hcm⟩ : ∃ cm, cmpN x y = cm := ⟨_, rfl⟩
  have hcm0 : 0 ≤ cm := by rw [← hcm]; exact HC.out
  rw [hcm]
  have HCM := Lib.hid hcm; clear hcm
  have hB1 : Below w.heap.size w w1 := hb1.trans (hb2.mono hb1.size)
  have hbp : w1.heap[w.heap.size]? = some (.cells #[.slice A' (k + 1) c'] 109 (0, 0)) := (hb2.block _ (by omega)).trans hba
  have hbq : w1.heap[w.heap.size + 1]? = some (.cells #[.slice none 0 0] 109 (0, 0)) := (hb2.block _ hs0).trans hbb
  have cp : w1.cell? ⟨w.heap.size, 0, none⟩ = some (.slice A' (k + 1) c') := by rw [Lib.cell_of_heap hbp]; rfl
  have hn1 : ((k : Int) + 1 == 1) = false := by simp; omega
  obtain ⟨ad, L', rfl, hadb, hLe, hcL⟩ := (h'.below hB1).at_ (j := k) (by omega)
  rw [HTOP.out, Option.some.injEq] at hLe
  subst hLe
  clear h1 h1' hba hbb hb1 hb2 hs0 HW
  have hU0 : IsU .u64 w1 w1.heap.size A n c (pcs 1000000000 x) := h.to hB1 (Nat.le_refl _)
  have hU0' : IsU .u64 w1 w1.heap.size (some ad) (k + 1) c' (pcs 1000000000 y) := h'.to hB1 (Nat.le_refl _)
  have hnm : n ≤ 4294967296 := by omega
  have hkm : k + 1 ≤ 4294967296 := by omega
  have hU1 : IsU .u64 w1.drew w1.drew.heap.size A n c (pcs 1000000000 x) := hU0
  have hU1' : IsU .u64 w1.drew w1.drew.heap.size (some ad) (k + 1) c' (pcs 1000000000 y) := hU0'
  have hcs := small_any A n c x f w1.drew hU1 hnm hf1
  have fq : w1.frozen? ⟨w.heap.size, 0, none⟩ = false := Lib.frozen_of_heap hbp 0
  have hpl := lt_of_block' hbp
  have hql := lt_of_block' hbq
  go_upto_region 13 with fail
  rw [hf']
  go_cut [0] from 59 to 64 (fun s0 wx => ∃ A1 n1 c1 A2 n2 c2, s0 = .slice A1 n1 c1 ∧ IsU .u64 wx wx.heap.size A1 n1 c1 (pcs 1000000000 (x * f)) ∧ IsU .u64 wx wx.heap.size A2 n2 c2 (pcs 1000000000 (y * f)) ∧ Fresh (w.heap.size + 2) A1 ∧ Fresh (w.heap.size + 2) A2 ∧ wx.heap[w.heap.size]? = some (.cells #[.slice A2 n2 c2] 109 (0, 0)) ∧ wx.heap[w.heap.size + 1]? = some (.cells #[.slice none 0 0] 109 (0, 0)) ∧ Below w.heap.size w wx)
  case first =>
    go_region_with (first
      | (with_reducible refine Calls.mono hcs ?_; rintro e w2 ⟨⟨A1, n1, c1, rfl, hU2, hfr2⟩, hb2⟩; have hp2 := (hb2.block _ hpl).trans hbp; have hq2 := (hb2.block _ hql).trans hbq; have cp2 := cell1 hp2; have hcs2 := small_any (some ad) (k + 1) c' y f w2 (hU1'.to hb2 (Nat.le_refl _)) hkm hf1)
      | (with_reducible refine Calls.mono hcs2 ?_; rintro e w3 ⟨⟨A2, n2, c2, rfl, hU3, hfr3⟩, hb3⟩; have hp3 := (hb3.block _ (lt_of_block' hp2)).trans hp2; have hq3 := (hb3.block _ (lt_of_block' hq2)).trans hq2; have cp3 := cell1 hp3; have fp3 := froz1 hp3))
    all_goals (
      go_wp2_with fail
      go_meet
      have hBw3 : Below w.heap.size w w3 := hB1.drew.trans ((hb2.mono (by have := hB1.size; exact this)).trans (hb3.mono (by have := hB1.size; have := hb2.size; simp only [World.drew] at *; omega)))
      have hpl3 := lt_of_block' hp3
      refine ⟨A1, n1, c1, A2, n2, c2, rfl, ?_, ?_, hfr2.mono (by exact hql), hfr3.mono (lt_of_block' hq2), ?_, ?_, ?_⟩
      · rw [setCell_size]
        exact ((hU2.to hb3 (Nat.le_refl _))).farSet hfr2 (by exact hpl) _
      · rw [setCell_size]
        exact hU3.farSet hfr3 (lt_of_block' hp2) _
      · simp [World.setCell, Array.getElem?_modify, hp3]
      · exact (Below.heap_setCell _ _ _ _ (by simp)).trans hq3
      · exact hBw3.setCell (p := ⟨w.heap.size, 0, none⟩) (by simp) _)
  case rest =>
    obtain ⟨A1, n1, c1, A2, n2, c2, rfl, hUa, hUb, hf1', hf2', hpc, hqc, hBc⟩ := hcut
    clear hcs hU1 hU1' hU0 hU0' cp fq hbp hbq hpl hql hB1 HCM hcL
    rw [Nat.mul_comm x f] at hUa
    rw [Nat.mul_comm y f] at hUb
    have hsc := HSC.out
    obtain rfl : k + 1 = n2 := by rw [← hUb.len, pcs_len_of (by decide) hsc.low hsc.high]
    have hn1 : n1 ≤ n + 1 := by
      rw [← hUa.len]
      apply pcs_len_le_of_lt (by decide)
      have h3 := pcs_len_lt (B := 1000000000) (by decide) x
      rw [h.len] at h3
      rw [Nat.pow_succ, Nat.mul_comm (1000000000 ^ n)]
      exact Nat.mul_lt_mul'' hf1 h3
    have htop := pcs_top (B := 1000000000) (by decide) hsc.low hsc.high
    have hb0 : 0 < f * y := Nat.lt_of_lt_of_le (Nat.pow_pos (by decide)) hsc.low
    have hT1 : 1 ≤ f * y / 1000000000 ^ k := (Nat.one_le_div_iff (Nat.pow_pos (by decide))).2 hsc.low
    obtain ⟨a, ha⟩ : ∃ a, f * x = a := ⟨_, rfl⟩
    obtain ⟨b, hb⟩ : ∃ b, f * y = b := ⟨_, rfl⟩
    obtain ⟨T, hT⟩ : ∃ T, b / 1000000000 ^ k = T := ⟨_, rfl⟩
    rw [ha] at hUa
    rw [hb] at hUb htop hb0 hT1
    rw [hT] at htop hT1
    obtain ⟨a2, T', rfl, ha2b, hTe, hcT⟩ := hUb.at_ (j := k) (by omega)
    rw [htop, Option.some.injEq] at hTe
    subst hTe
    have HA := Lib.hid ha; clear ha
    have HB := Lib.hid hb; clear hb
    have HT := Lib.hid hT; clear hT hsc htop HTOP HF
    have hpl := lt_of_block' hpc
    have hql := lt_of_block' hqc
    obtain ⟨i0, hi0, hz0, hz1, hz2⟩ := info_parts info_u64
    go_wp2_with (at_make; refine wpList_make_full _ rfl _ _ 109 rfl wc.heap.size 145 i0 (.int .u64 0) 1 Tryz.underlying109 hi0 hz0 hz1 .i64 .i64 _ _ n1 rfl rfl (by omega) (by omega) (by rw [hz2]; omega) (by unfold maxLen; omega) (Nat.le_refl _) ?_; intro w4 hown4 hgrow4; have hb4 : Below wc.heap.size wc w4 := (Below.refl _ _).grown hgrow4 (Nat.le_refl _) (by simp); have hp4 := (hb4.block _ hpl).trans hpc; have hq4 := (hb4.block _ hql).trans hqc; have cp4 := cell1 hp4; have cq4 := cell1 hq4; have fq4 := froz1 hq4; have hUa5 := (hUa.below hb4).farSet hf1' (p := ⟨w.heap.size + 1, 0, none⟩) (by simp) (.slice (some ⟨wc.heap.size, 0, none⟩) n1 n1); have hUb5 := (hUb.below hb4).farSet hf2' (p := ⟨w.heap.size + 1, 0, none⟩) (by simp) (.slice (some ⟨wc.heap.size, 0, none⟩) n1 n1); have hp5 := (Below.heap_setCell w4 ⟨w.heap.size + 1, 0, none⟩ (.slice (some ⟨wc.heap.size, 0, none⟩) n1 n1) w.heap.size (by simp)).trans hp4; have cp5 := cell1 hp5; have cT5 : (w4.setCell ⟨w.heap.size + 1, 0, none⟩ (.slice (some ⟨wc.heap.size, 0, none⟩) n1 n1)).cell? (a2.add k) = some (.int .u64 (T : Int)) := (World.cell?_setCell_other (h := fun e => by have h1 := hf2' a2 rfl; have h2 := block_of_add a2 k; rw [← e] at h2; simp only at h2; omega) ..).trans ((hb4.cell (by rw [block_of_add]; exact ha2b)).trans hcT))
    have hql4 := lt_of_block' hq4
    have hq5 : (w4.setCell ⟨w.heap.size + 1, 0, none⟩ (.slice (some ⟨wc.heap.size, 0, none⟩) n1 n1)).heap[w.heap.size + 1]? = some (.cells #[.slice (some ⟨wc.heap.size, 0, none⟩) n1 n1] 109 (0, 0)) := by
      simp [World.setCell, Array.getElem?_modify, hq4]
    rw [show (madeCells (Value.int IntKind.u64 0).cells (n1 * 1)).toList = us .u64 (List.replicate n1 0) by
      rw [Nat.mul_one]; exact (toList_madeCells_one _ _).trans (by simp [us])] at hown4
    have hrow5 : Own .u64 145 (w4.setCell ⟨w.heap.size + 1, 0, none⟩ (.slice (some ⟨wc.heap.size, 0, none⟩) n1 n1)) wc.heap.size (.slice (some ⟨wc.heap.size, 0, none⟩) n1 n1) (List.replicate n1 0) := by
      have ho : Own .u64 145 w4 wc.heap.size (.slice (some ⟨wc.heap.size, 0, none⟩) n1 n1) (List.replicate n1 0) := by
        unfold Own; rw [List.length_replicate]; exact hown4
      exact ho.keep fun g hg hge => Below.heap_setCell _ _ _ _ (by simp; omega)
    have hB5 : Below w.heap.size w (w4.setCell ⟨w.heap.size + 1, 0, none⟩ (.slice (some ⟨wc.heap.size, 0, none⟩) n1 n1)) := (hBc.trans (hb4.mono hBc.size)).setCell (p := ⟨w.heap.size + 1, 0, none⟩) (by simp) _
    have hs5 : wc.heap.size ≤ (w4.setCell ⟨w.heap.size + 1, 0, none⟩ (.slice (some ⟨wc.heap.size, 0, none⟩) n1 n1)).heap.size := by rw [setCell_size]; exact hb4.size
    obtain ⟨w5, hw5⟩ : ∃ w5, w4.setCell ⟨w.heap.size + 1, 0, none⟩ (.slice (some ⟨wc.heap.size, 0, none⟩) n1 n1) = w5 := ⟨_, rfl⟩
    rw [hw5] at hUa5 hUb5 hp5 cp5 cT5 hq5 hrow5 hB5 hs5 ⊢
    obtain ⟨g, hg⟩ : ∃ g, wc.heap.size = g := ⟨_, rfl⟩
    rw [hg] at hUa5 hUb5 hq5 hrow5 hs5 hpl hql ⊢
    clear hw5 hown4 hgrow4 hb4 hp4 hq4 cp4 cq4 fq4 hql4 hUa hUb hcT hpc hqc hBc
    have hq0 : QInv 1000000000 a b n1 n1 (List.replicate n1 0) := by
      have := QInv.start (B := 1000000000) (a := a) (b := b) (by decide)
      rwa [hUa5.len] at this
    have hr0 : a / 1000000000 ^ n1 % b = 0 := by
      have h3 := pcs_len_lt (B := 1000000000) (by decide) a
      rw [hUa5.len] at h3
      rw [Nat.div_eq_of_lt h3, Nat.zero_mod]
    have HQ0 := Lib.hid hq0; clear hq0
    have HR0 := Lib.hid hr0; clear hr0
    go_loopw [5, 11, 12, 13] (fun r i _ _ wr => ∃ (j : Nat) (qs : List Nat) (Ar : Option Addr) (nr cr : Nat), j ≤ n1 ∧ i = .int .i64 ((j : Int) - 1) ∧ r = .slice Ar nr cr ∧ IsU .u64 wr wr.heap.size Ar nr cr (pcs 1000000000 (a / 1000000000 ^ j % b)) ∧ Fresh (g + 1) Ar ∧
        Own .u64 145 wr g (.slice (some ⟨g, 0, none⟩) n1 n1) qs ∧ QInv 1000000000 a b n1 j qs ∧ Below g w5 wr)
      (fun _ i _ _ _ => (intOf i + 1).toNat)
    case atStart => exact ⟨n1, _, none, 0, 0, Nat.le_refl _, rfl, rfl, by rw [HR0.out, pcs_zero]; exact IsU.nil _ _ _ _ _, Fresh.none_ _, hrow5, HQ0.out, Below.refl _ _⟩
    case round =>
      obtain ⟨j, qs, Ar, nr, cr, hj, hiv, rfl, hUr, hfr, hown, hinv, hbel⟩ := hrel
      rcases Nat.eq_zero_or_pos j with rfl | hj0
      · rw [show (((0 : Nat) : Int) - 1) = -1 by rfl] at hiv
        subst hiv
        rw [Nat.pow_zero, Nat.div_one] at hUr
        have hql1 := hinv.len
        have hqf := hinv.fin (by decide)
        have e1 : a / b = x / y := by rw [← HA.out, ← HB.out]; exact Nat.mul_div_mul_left _ _ hf0
        have e2 : a % b / f = x % y := by rw [← HA.out, ← HB.out, Nat.mul_mod_mul_left]; exact Nat.mul_div_cancel_left _ hf0
        rw [e1] at hqf
        have hrb : a % b < b := Nat.mod_lt _ hb0
        have hbk : b < 1000000000 ^ (k + 1) := by rw [← HB.out]; exact HSC.out.high
        have hnr : nr ≤ k + 1 := by rw [← hUr.len]; exact pcs_len_le_of_lt (by decide) (Nat.lt_trans hrb hbk)
        have HE2 := Lib.hid e2
        have HQF := Lib.hid hqf
        clear e1 e2 hqf hbk hrb
        have hgl := hbel.size
        have hqr := (hbel.block _ hql).trans hq5
        have hal : Below wr.heap.size wr (wr.alloc (.cells #[.int .u64 (f : Int)] 145)) := (Below.refl _ _).alloc (Nat.le_refl _) _
        have hUr1 := hUr.to hal (Nat.le_refl _)
        have hUf : IsU .u64 (wr.alloc (.cells #[.int .u64 (f : Int)] 145)) (wr.alloc (.cells #[.int .u64 (f : Int)] 145)).heap.size (some ⟨wr.heap.size, 0, none⟩) 1 1 [f] := IsU.of_block (xs := [f]) (heap_alloc_new wr _) rfl
        have hcd := div_small Ar (some ⟨wr.heap.size, 0, none⟩) nr cr 1 (a % b) f hf0 hf1 _ hUr1 hUf (by omega)
        go_wp2_with fail
        refine hcd.mono ?_
        rintro e w6 ⟨⟨A1r, n1r, c1r, A2r, n2r, c2r, rfl, hUq6, hUr6⟩, hb6⟩
        have hb6' : Below wr.heap.size wr w6 := hal.trans (hb6.mono (by simp))
        have hown6 := own_row (hown.below hb6') hql1
        have hq6 := (hb6'.block _ (lt_of_block' hqr)).trans hqr
        have hq6l := lt_of_block' hq6
        have cq6 := cell1 hq6
        have fq6 := froz1 hq6
        have hU6 : IsU .u64 w6 w6.heap.size (some ⟨g, 0, none⟩) n1 n1 qs := ⟨hql1, Nat.le_refl _, Reads.of_own hown6⟩
        have hBw6 : Below w.heap.size w w6 := hB5.trans ((hbel.mono (by omega)).trans (hb6'.mono (by omega)))
        go_wp2_with fail
        refine (trim_any (some ⟨g, 0, none⟩) n1 n1 qs w6 hU6 (by omega)).mono ?_
        rintro e w' ⟨rfl, rfl⟩
        go_wp2
        have c9 : (w6.setCell ⟨w.heap.size + 1, 0, none⟩ (.slice (some ⟨g, 0, none⟩) (trimL qs).length n1)).cell? ⟨w.heap.size + 1, 0, none⟩ = some (.slice (some ⟨g, 0, none⟩) (trimL qs).length n1) := World.cell?_setCell_same _ _ _ cq6
        have hq9 := (hU6.trim).farBox hq6 (.slice (some ⟨g, 0, none⟩) (trimL qs).length n1)
        have hr9 := hUq6.farBox hq6 (.slice (some ⟨g, 0, none⟩) (trimL qs).length n1)
        have hz9 := setCell_size w6 ⟨w.heap.size + 1, 0, none⟩ (.slice (some ⟨g, 0, none⟩) (trimL qs).length n1)
        rw [HE2.out] at hr9
        have hqe := HQF.out
        have hD9 : DivRes x y (.returned (.tuple #[.slice (some ⟨g, 0, none⟩) (trimL qs).length n1, .slice A1r n1r c1r])) (w6.setCell ⟨w.heap.size + 1, 0, none⟩ (.slice (some ⟨g, 0, none⟩) (trimL qs).length n1)) :=
          ⟨_, _, _, _, _, _, rfl, by rw [← hqe, hz9]; exact hq9, by rw [hz9]; exact hr9⟩
        exact bodyPost_ret (v := .tuple #[.slice (some ⟨g, 0, none⟩) (trimL qs).length n1, .slice A1r n1r c1r]) (by simp [results, Tryz.results106, go_sem, c9]) rfl ⟨hD9, hBw6.setCell (p := ⟨w.heap.size + 1, 0, none⟩) (by simp) _⟩
      · obtain ⟨i, rfl⟩ : ∃ i, j = i + 1 := ⟨j - 1, by omega⟩
        rw [show (((i + 1 : Nat) : Int) - 1) = (i : Int) by omega] at hiv
        subst hiv
        obtain ⟨ad1, p, rfl, hb1, hpe, hcp⟩ := (hUa5.below hbel).at_ (j := i) (by omega)
        have hpp : p = a / 1000000000 ^ i % 1000000000 := by
          have h3 := pcs_get (B := 1000000000) (by decide) i a (by rw [hUa5.len]; omega)
          rw [hpe] at h3
          exact Option.some.inj h3
        have hp9 : p < 1000000000 := by rw [hpp]; exact Nat.mod_lt _ (by decide)
        obtain ⟨R, hR⟩ : ∃ R, a / 1000000000 ^ (i + 1) % b = R := ⟨_, rfl⟩
        have hRb : R < b := by rw [← hR]; exact Nat.mod_lt _ hb0
        rw [hR] at hUr
        have hbk : b < 1000000000 ^ (k + 1) := by rw [← HB.out]; exact HSC.out.high
        have hnr : nr ≤ k + 1 := by rw [← hUr.len]; exact pcs_len_le_of_lt (by decide) (by omega)
        obtain ⟨S, hS⟩ : ∃ S, p + 1000000000 * R = S := ⟨_, rfl⟩
        have hSlt : S < 1000000000 * b := by rw [← hS]; exact rest_lt hp9 hRb
        have hst := rest_step (B := 1000000000) (a := a) (i := i) hb0
        rw [← hpp, hR, hS] at hst
        have htr : trimL ([p] ++ pcs 1000000000 R) = pcs 1000000000 S := by
          rw [trim_pcs' (by decide) (Dig.app (Dig.one hp9) (dig_pcs (by decide) R)), val_append, val_pcs (by decide)]
          simp [val, hS]
        have hkeep : S < b → QInv 1000000000 a b n1 i qs := fun hlt => hinv.keep hb0 (by omega) (by rw [← hpp, hR, hS]; exact hlt)
        have hset : QInv 1000000000 a b n1 i (qs.set i (S / b)) := by
          have := hinv.step hb0 (by omega) (by decide) (by rw [← hpp, hR, hS]; exact hSlt)
          rwa [← hpp, hR, hS] at this
        have hS1 : a / 1000000000 ^ i % b = S % b := hst.1
        have hql1 := hinv.len
        have HTR := Lib.hid htr
        have HKEEP := Lib.hid hkeep
        have HSET := Lib.hid hset
        have HS1 := Lib.hid hS1
        have HBK := Lib.hid hbk
        have HPP := Lib.hid hpp
        have HRR := Lib.hid hR
        have HSS := Lib.hid hS
        have HSL := Lib.hid hSlt
        have HINV := Lib.hid hinv
        clear htr hkeep hset hS1 hbk hpp hst hpe hR hS hSlt hinv
        have hgl := hbel.size
        have hpr := (hbel.block _ hpl).trans hp5
        have hqr := (hbel.block _ hql).trans hq5
        have hlit : Own .u64 145 (wr.alloc (.cells #[.int .u64 (p : Int)] 145)) wr.heap.size (.slice (some ⟨wr.heap.size, 0, none⟩) 1 1) [p] :=
          World.ownsRow_lit wr #[.int .u64 (p : Int)] 1 (Nat.le_refl _) (by unfold maxLen; omega) rfl
        have hal : Below wr.heap.size wr (wr.alloc (.cells #[.int .u64 (p : Int)] 145)) := (Below.refl _ _).alloc (Nat.le_refl _) _
        have hUr1 := hUr.below hal
        go_wp2_with (first
          | (at_builtin; refine wpList_append_all _ rfl _ _ 109 rfl wr.heap.size 145 i0 (.int .u64 0) 8 Tryz.underlying109 hi0 hz0 hz1 hz2 rfl .u64 _ [p] (pcs 1000000000 R) rfl hlit wr.heap.size nr cr Ar rfl hUr1 (by unfold maxLen; simp; omega) (by simp; omega) (by simp) ?_; intro v' w6 hownr hgrow6; have hb6 : Below wr.heap.size wr w6 := hal.grown hgrow6 (by simp) (own_base' hlit); have hfl := hownr.form' (n := nr + 1) (by simp [hUr.len]); have hfr6' := hownr; obtain ⟨A6, c6, rfl, hU6⟩ := hfl; have hfr6 := hfr6'.fresh; have hp6 := (hb6.block _ (lt_of_block' hpr)).trans hpr; have cp6 := cell1 hp6)
          | (go_at_call 109; refine (trim_any A6 (nr + 1) c6 _ w6 hU6 (by omega)).mono ?_; rintro e w' ⟨rfl, rfl⟩; have hU7 := hU6.trim; rw [HTR.out] at hU7 ⊢))
        have hSB : S < 1000000000 ^ (k + 2) := by
          have h3 := HSL.out
          have h4 := HBK.out
          rw [show k + 2 = (k + 1) + 1 by omega, Nat.pow_succ, Nat.mul_comm (1000000000 ^ (k + 1))]
          omega
        have hlS : (pcs 1000000000 S).length ≤ k + 2 := pcs_len_le_of_lt (by decide) hSB
        have HSB := Lib.hid hSB; clear hSB
        have hgw : g < wr.heap.size := by
          obtain ⟨g', cap', e1, _, h4⟩ := hown.row.form (by omega)
          injection e1 with e1
          injection e1 with e1
          injection e1 with e1
          omega
        have hbw6 : Below g w5 w6 := hbel.trans (hb6.mono (by omega))
        have hg6 : wr.heap.size ≤ w6.heap.size := hb6.size
        have hUb6 : IsU .u64 w6 w6.heap.size (some a2) (k + 1) c2 (pcs 1000000000 b) := (hUb5.below hbw6).more (by omega)
        refine (order_any A6 (some a2) _ (k + 1) c6 c2 S b w6 hU7 hUb6 (by omega) (by omega)).mono ?_
        rintro e w7 ⟨rfl, hb7⟩
        have hown7 := (hown.below hb6).below hb7
        have hbw7 : Below g w5 w7 := hbw6.trans (hb7.mono (by omega))
        have hU7' := hU7.to hb7 (Nat.le_refl _)
        have hg7 : w6.heap.size ≤ w7.heap.size := hb7.size
        have hUb7 := hUb6.to hb7 (Nat.le_refl _)
        have hp7 := (hb7.block _ (lt_of_block' hp6)).trans hp6
        have hq7 := (hb7.block _ (by omega)).trans ((hb6.block _ (lt_of_block' hqr)).trans hqr)
        have cp7 := cell1 hp7
        have cq7 := cell1 hq7
        clear hown hbel hbw6 hU7 hU6 hUb6 hp6 cp6 hpr hqr hlit hal hUr1 hUr hownr hfr6' hgrow6 hb6 hb7 hcp
        by_cases hlt : S < b
        · have hcc : cmpN S b = -1 := by simp [cmpN, hlt]
          have hq1 := HKEEP.out hlt
          have hq2 : a / 1000000000 ^ i % b = S := by rw [HS1.out, Nat.mod_eq_of_lt hlt]
          have HQ1 := Lib.hid hq1; clear hq1
          have HQ2 := Lib.hid hq2; clear hq2
          rw [hcc]
          clear hcc
          go_wp2
          go_roundw
          case rel => exact ⟨i, qs, A6, _, c6, by omega, by go_num, rfl, by rw [HQ2.out]; exact hU7', hfr6.mono (by omega), hown7, HQ1.out, hbw7⟩
          case measure => simp [intOf] <;> omega
        · have hcc : 0 ≤ cmpN S b := by unfold cmpN; rw [if_neg hlt]; split <;> omega
          obtain ⟨cs, hcs⟩ : ∃ cs, cmpN S b = cs := ⟨_, rfl⟩
          rw [hcs] at hcc ⊢
          clear hcs
          have hbS : b ≤ S := Nat.le_of_not_lt hlt
          clear hlt
          have hlow : 1000000000 ^ k ≤ S := Nat.le_trans (by rw [← HB.out]; exact HSC.out.low) hbS
          have hest := estimate (B := 1000000000) (by decide) (by rw [← HB.out]; exact HSC.out.low) HSL.out
          rw [HT.out] at hest
          have HEST := Lib.hid hest; clear hest
          have hlen1 : k + 1 ≤ (pcs 1000000000 S).length := by
            have h3 := pcs_len_lt (B := 1000000000) (by decide) S
            rcases Nat.lt_or_ge (pcs 1000000000 S).length (k + 1) with h4 | h4
            · have h5 : 1000000000 ^ (pcs 1000000000 S).length ≤ 1000000000 ^ k := Nat.pow_le_pow_right (by decide) (by omega)
              omega
            · exact h4
          obtain ⟨d0, hd0⟩ : ∃ d0, S / 1000000000 ^ k = d0 := ⟨_, rfl⟩
          have hd0b : d0 < 1000000000 * 1000000000 := by
            rw [← hd0]
            apply Nat.div_lt_of_lt_mul
            have := HSB.out
            rwa [Nat.pow_succ, Nat.pow_succ, Nat.mul_assoc] at this
          have hget := pcs_get (B := 1000000000) (by decide) k S (by omega)
          rw [hd0] at hget
          obtain ⟨ms, hms⟩ : ∃ ms, (pcs 1000000000 S).length = ms := ⟨_, rfl⟩
          have HLS := Lib.hid hlow; clear hlow
          rw [hms] at hU7' hlS hlen1 ⊢
          have hcase : ms = k + 1 ∨ ms = k + 2 := by omega
          obtain ⟨D, hD⟩ : ∃ D, min (d0 / T) (1000000000 - 1) = D := ⟨_, rfl⟩
          have hD9 : D < 1000000000 := by rw [← hD]; exact Nat.lt_of_le_of_lt (Nat.min_le_right _ _) (by decide)
          have hDe : S / b ≤ D := by rw [← hD, ← hd0]; exact HEST.out
          have hmin : min (IntKind.u64.wrap ((d0 : Int) / (T : Int))) 999999999 = (D : Int) := by
            have h3 : (0 : Int) ≤ (d0 : Int) / (T : Int) := Int.ediv_nonneg (by omega) (by omega)
            have h4 : (d0 : Int) / (T : Int) ≤ (d0 : Int) := Int.ediv_le_self _ (by omega)
            rw [wrap_u64 h3 (by omega), ← hD]
            have h5 : ((d0 / T : Nat) : Int) = (d0 : Int) / (T : Int) := by simp
            rw [← h5]
            omega
          have hmin2 : min ((d0 : Int) / (T : Int)) 999999999 = (D : Int) := by
            rw [← hD]
            have h5 : ((d0 / T : Nat) : Int) = (d0 : Int) / (T : Int) := by simp
            rw [← h5]
            omega
          have HMIN := Lib.hid hmin; clear hmin
          have HMIN2 := Lib.hid hmin2; clear hmin2
          have HDE := Lib.hid hDe; clear hDe
          have HDD := Lib.hid hD; clear hD
          rcases hcase with rfl | rfl
          · have hd1 : d0 < 1000000000 := by
              rw [← hd0]
              apply Nat.div_lt_of_lt_mul
              have h3 := pcs_len_lt (B := 1000000000) (by decide) S
              rw [hms] at h3
              rwa [Nat.pow_succ] at h3
            obtain ⟨a6, x6, rfl, ha6b, hx6, hc6⟩ := hU7'.at_ (j := k) (by omega)
            rw [hget, Nat.mod_eq_of_lt hd1, Option.some.injEq] at hx6
            subst hx6
            clear hget hms
            have HD0 := Lib.hid hd0; clear hd0
            go_wp2_with fail
            rw [HMIN.out]
            refine (small_any (some a2) (k + 1) c2 b D w7 hUb7 (by omega) hD9).mono ?_
            rintro e w8 ⟨⟨A8, n8, c8, rfl, hU8, hfr8⟩, hb8⟩
            have hgwo : g < wr.heap.size := hgw
            obtain ⟨wo, rfl⟩ : ∃ wo : World, wo = wr := ⟨_, rfl⟩
            have hUr8 := hU7'.to hb8 (Nat.le_refl _)
            have hUb8 := hUb7.to hb8 (Nat.le_refl _)
            have hown8 := hown7.below hb8
            have hp8 := (hb8.block _ (lt_of_block' hp7)).trans hp7
            have hq8 := (hb8.block _ (lt_of_block' hq7)).trans hq7
            have hg8 := hb8.size
            have hbw8 : Below g w5 w8 := hbw7.trans (hb8.mono (by omega))
            clear hU7' hUb7 hown7 hp7 hq7 cp7 cq7 hbw7 hb8 hc6
            go_wp2_with fail
            go_loopw [12, 13] (fun dv pv wr => ∃ (dn : Nat) (Ap : Option Addr) (np cp : Nat), dv = .int .u64 (dn : Int) ∧ pv = .slice Ap np cp ∧ IsU .u64 wr wr.heap.size Ap np cp (pcs 1000000000 (b * dn)) ∧ Fresh w7.heap.size Ap ∧ S / b ≤ dn ∧ dn < 1000000000 ∧ Below w8.heap.size w8 wr)
              (fun dv _ _ => (intOf dv).toNat)
            case atStart => exact ⟨D, A8, n8, c8, rfl, rfl, hU8, hfr8, HDE.out, hD9, Below.refl _ _⟩
            case round =>
              obtain ⟨dn, Ap, np, cp, rfl, rfl, hUp, hfp, hle, hd9, hbp2⟩ := hrel
              have hUr9 := hUr8.to hbp2 (Nat.le_refl _)
              have hUb9 := hUb8.to hbp2 (Nat.le_refl _)
              have hown9 := hown8.below hbp2
              have hg9 := hbp2.size
              have hp9 := (hbp2.block _ (lt_of_block' hp8)).trans hp8
              have hq9 := (hbp2.block _ (lt_of_block' hq8)).trans hq8
              have hbw9 : Below g w5 wr := hbw8.trans (hbp2.mono (by omega))
              have hnp : np ≤ k + 2 := by
                rw [← hUp.len]
                apply pcs_len_le_of_lt (by decide)
                have h3 := HBK.out
                rw [show k + 2 = (k + 1) + 1 by omega, Nat.pow_succ]
                exact Nat.mul_lt_mul'' h3 hd9
              have hmore : S < b * dn → S / b + 1 ≤ dn := fun h3 => try_more hb0 hle h3
              have hdone : b * dn ≤ S → dn = S / b := fun h3 => try_done hb0 hle h3
              have hsub : b * dn - b = b * (dn - 1) := by rw [Nat.mul_sub, Nat.mul_one]
              have hbM : S < b * dn → b ≤ b * dn := fun h3 => by omega
              obtain ⟨M, hM⟩ : ∃ M, b * dn = M := ⟨_, rfl⟩
              rw [hM] at hUp hmore hdone hsub hbM
              have HSUB := Lib.hid hsub; clear hsub
              have HMM := Lib.hid hM; clear hM
              have HLE := Lib.hid hle; clear hle
              have HMORE := Lib.hid hmore; clear hmore
              have HDONE := Lib.hid hdone; clear hdone
              have HBM := Lib.hid hbM; clear hbM
              clear hUr8 hUb8 hown8 hp8 hq8 hbw8 hU8
              go_wp2_with fail
              refine (order_any Ap (some a6) np _ cp c6 M S wr hUp hUr9 (by omega) (by omega)).mono ?_
              rintro e w10 ⟨rfl, hb10⟩
              have hUr10 := hUr9.to hb10 (Nat.le_refl _)
              have hUb10 := hUb9.to hb10 (Nat.le_refl _)
              have hUp10 := hUp.to hb10 (Nat.le_refl _)
              have hown10 := hown9.below hb10
              have hg10 := hb10.size
              have hp10 := (hb10.block _ (lt_of_block' hp9)).trans hp9
              have hq10 := (hb10.block _ (lt_of_block' hq9)).trans hq9
              have hbp10 : Below w8.heap.size w8 w10 := hbp2.trans (hb10.mono (by omega))
              have hbw10 : Below g w5 w10 := hbw9.trans (hb10.mono (by omega))
              have cp10 := cell1 hp10
              have cq10 := cell1 hq10
              clear hUr9 hUb9 hUp hown9 hp9 hq9 hbw9
              by_cases hgt : S < M
              · have hcc : cmpN M S = 1 := by unfold cmpN; rw [if_neg (by omega), if_neg (by omega)]
                have hd1' := HMORE.out hgt
                have hd1'' : 1 ≤ dn := Nat.le_trans (Nat.le_add_left 1 _) hd1'
                rw [hcc]
                clear hcc hd1'
                go_wp2_with fail
                refine (minus_any Ap (some a2) np (k + 1) cp c2 M b w10 hUp10 hUb10 (by omega) (by omega) (HBM.out hgt)).mono ?_
                rintro e w11 ⟨⟨A11, n11, c11, rfl, hU11, hfr11⟩, hb11⟩
                go_wp2_with fail
                go_roundw
                case rel =>
                  exact ⟨dn - 1, A11, n11, c11, by go_num, rfl, by rw [← HSUB.out]; exact hU11, hfr11.mono (by omega), by have := HMORE.out hgt; omega, by omega, hbp10.trans (hb11.mono (by omega))⟩
                case measure => simp [intOf] <;> omega
              · have hdn := HDONE.out (by omega)
                have hcc : cmpN M S ≤ 0 := by unfold cmpN; split; omega; split <;> omega
                obtain ⟨ct, hct⟩ : ∃ ct, cmpN M S = ct := ⟨_, rfl⟩
                rw [hct] at hcc ⊢
                clear hct
                have hMS : M ≤ S := Nat.le_of_not_lt hgt
                have hown10d : Own .u64 145 w10.drew g (.slice (some ⟨g, 0, none⟩) n1 n1) qs := hown10
                have hmn := minus_any (some a6) Ap _ np c6 cp S M w10.drew hUr10 hUp10 (by omega) (by omega) hMS
                have hql10 := lt_of_block' hq10
                have hSM : S - M = S % b := by
                  have h3 := Nat.div_add_mod S b
                  have h4 := HMM.out
                  rw [hdn] at h4
                  omega
                have HSM := Lib.hid hSM; clear hSM
                have hz0' := HINV.out.low i (by omega)
                have HSET2 : QInv 1000000000 a b n1 i (qs.set i dn) := by rw [hdn]; exact HSET.out
                have HSETH := Lib.hid HSET2; clear HSET2
                have HDN := Lib.hid hdn; clear hdn
                have HZ0 := Lib.hid hz0'; clear hz0'
                have hin1 : i < n1 := by omega
                go_wp2_with fail
                go_region_with (with_reducible refine Calls.mono hmn ?_; rintro e w12 ⟨⟨A12, n12, c12, rfl, hU12, hfr12⟩, hb12⟩; have hown12 := hown10d.below hb12; have hrow12 := own_row hown12 hql1; have cg12 := row_cell hrow12 hin1 HZ0.out; have fg12 := hrow12.frozenAt i; have hq12 := (hb12.block _ hql10).trans hq10; have cq12 := cell1 hq12)
                all_goals go_wp2_with fail
                all_goals (
                  have hg12 : g < w10.heap.size := by omega
                  refine ⟨⟨i, qs.set i dn, A12, n12, c12, by omega, by go_num, rfl, ?_, hfr12.mono (by exact hg12), ?_, HSETH.out, ?_⟩, by simp [intOf] <;> omega⟩
                  · rw [setCell_size, HS1.out, ← HSM.out]
                    exact hU12.farSet hfr12 (by exact hg12) _
                  · have h3 := (hrow12.stored i (.int .u64 (dn : Int))).1
                    rw [← us_set] at h3
                    unfold Own
                    rw [List.length_set, hql1]
                    exact h3
                  · exact (hbw10.drew.trans (hb12.mono (by exact Nat.le_of_lt hg12))).setCell (p := ⟨g, i, none⟩) (Nat.le_refl _) _)
          · have hget2 := pcs_get (B := 1000000000) (by decide) (k + 1) S (by omega)
            obtain ⟨a6, x6, rfl, ha6b, hx6, hc6⟩ := hU7'.at_ (j := k) (by omega)
            obtain ⟨a6', y6, e6, _, hy6, hc6'⟩ := hU7'.at_ (j := k + 1) (by omega)
            cases e6
            have hc7 := hc6'
            simp [Addr.add] at hc7
            rw [hget, Option.some.injEq] at hx6
            have hd2 : S / 1000000000 ^ (k + 1) = d0 / 1000000000 := by rw [← hd0, Nat.div_div_eq_div_mul, Nat.pow_succ]
            have hy : y6 = d0 / 1000000000 := by
              rw [hget2, Option.some.injEq] at hy6
              rw [← hy6, hd2, Nat.mod_eq_of_lt (Nat.div_lt_of_lt_mul hd0b)]
            have hdd : (y6 : Int) * 1000000000 + (x6 : Int) = (d0 : Int) := by omega
            have hx9 : x6 < 1000000000 := by omega
            have hy9 : y6 < 1000000000 := by omega
            have HDD2 := Lib.hid hdd
            clear hget hget2 hms hx6 hy6 hd2 hy hdd
            have HD0 := Lib.hid hd0; clear hd0
            go_wp2_with fail
            rw [HDD2.out, HMIN2.out]
            refine (small_any (some a2) (k + 1) c2 b D w7 hUb7 (by omega) hD9).mono ?_
            rintro e w8 ⟨⟨A8, n8, c8, rfl, hU8, hfr8⟩, hb8⟩
            have hgwo : g < wr.heap.size := hgw
            obtain ⟨wo, rfl⟩ : ∃ wo : World, wo = wr := ⟨_, rfl⟩
            have hUr8 := hU7'.to hb8 (Nat.le_refl _)
            have hUb8 := hUb7.to hb8 (Nat.le_refl _)
            have hown8 := hown7.below hb8
            have hp8 := (hb8.block _ (lt_of_block' hp7)).trans hp7
            have hq8 := (hb8.block _ (lt_of_block' hq7)).trans hq7
            have hg8 := hb8.size
            have hbw8 : Below g w5 w8 := hbw7.trans (hb8.mono (by omega))
            clear hU7' hUb7 hown7 hp7 hq7 cp7 cq7 hbw7 hb8 hc6
            go_wp2_with fail
            go_loopw [12, 13] (fun dv pv wr => ∃ (dn : Nat) (Ap : Option Addr) (np cp : Nat), dv = .int .u64 (dn : Int) ∧ pv = .slice Ap np cp ∧ IsU .u64 wr wr.heap.size Ap np cp (pcs 1000000000 (b * dn)) ∧ Fresh w7.heap.size Ap ∧ S / b ≤ dn ∧ dn < 1000000000 ∧ Below w8.heap.size w8 wr)
              (fun dv _ _ => (intOf dv).toNat)
            case atStart => exact ⟨D, A8, n8, c8, rfl, rfl, hU8, hfr8, HDE.out, hD9, Below.refl _ _⟩
            case round =>
              obtain ⟨dn, Ap, np, cp, rfl, rfl, hUp, hfp, hle, hd9, hbp2⟩ := hrel
              have hUr9 := hUr8.to hbp2 (Nat.le_refl _)
              have hUb9 := hUb8.to hbp2 (Nat.le_refl _)
              have hown9 := hown8.below hbp2
              have hg9 := hbp2.size
              have hp9 := (hbp2.block _ (lt_of_block' hp8)).trans hp8
              have hq9 := (hbp2.block _ (lt_of_block' hq8)).trans hq8
              have hbw9 : Below g w5 wr := hbw8.trans (hbp2.mono (by omega))
              have hnp : np ≤ k + 2 := by
                rw [← hUp.len]
                apply pcs_len_le_of_lt (by decide)
                have h3 := HBK.out
                rw [show k + 2 = (k + 1) + 1 by omega, Nat.pow_succ]
                exact Nat.mul_lt_mul'' h3 hd9
              have hmore : S < b * dn → S / b + 1 ≤ dn := fun h3 => try_more hb0 hle h3
              have hdone : b * dn ≤ S → dn = S / b := fun h3 => try_done hb0 hle h3
              have hsub : b * dn - b = b * (dn - 1) := by rw [Nat.mul_sub, Nat.mul_one]
              have hbM : S < b * dn → b ≤ b * dn := fun h3 => by omega
              obtain ⟨M, hM⟩ : ∃ M, b * dn = M := ⟨_, rfl⟩
              rw [hM] at hUp hmore hdone hsub hbM
              have HSUB := Lib.hid hsub; clear hsub
              have HMM := Lib.hid hM; clear hM
              have HLE := Lib.hid hle; clear hle
              have HMORE := Lib.hid hmore; clear hmore
              have HDONE := Lib.hid hdone; clear hdone
              have HBM := Lib.hid hbM; clear hbM
              clear hUr8 hUb8 hown8 hp8 hq8 hbw8 hU8
              go_wp2_with fail
              refine (order_any Ap (some a6) np _ cp c6 M S wr hUp hUr9 (by omega) (by omega)).mono ?_
              rintro e w10 ⟨rfl, hb10⟩
              have hUr10 := hUr9.to hb10 (Nat.le_refl _)
              have hUb10 := hUb9.to hb10 (Nat.le_refl _)
              have hUp10 := hUp.to hb10 (Nat.le_refl _)
              have hown10 := hown9.below hb10
              have hg10 := hb10.size
              have hp10 := (hb10.block _ (lt_of_block' hp9)).trans hp9
              have hq10 := (hb10.block _ (lt_of_block' hq9)).trans hq9
              have hbp10 : Below w8.heap.size w8 w10 := hbp2.trans (hb10.mono (by omega))
              have hbw10 : Below g w5 w10 := hbw9.trans (hb10.mono (by omega))
              have cp10 := cell1 hp10
              have cq10 := cell1 hq10
              clear hUr9 hUb9 hUp hown9 hp9 hq9 hbw9
              by_cases hgt : S < M
              · have hcc : cmpN M S = 1 := by unfold cmpN; rw [if_neg (by omega), if_neg (by omega)]
                have hd1' := HMORE.out hgt
                have hd1'' : 1 ≤ dn := Nat.le_trans (Nat.le_add_left 1 _) hd1'
                rw [hcc]
                clear hcc hd1'
                go_wp2_with fail
                refine (minus_any Ap (some a2) np (k + 1) cp c2 M b w10 hUp10 hUb10 (by omega) (by omega) (HBM.out hgt)).mono ?_
                rintro e w11 ⟨⟨A11, n11, c11, rfl, hU11, hfr11⟩, hb11⟩
                go_wp2_with fail
                go_roundw
                case rel =>
                  exact ⟨dn - 1, A11, n11, c11, by go_num, rfl, by rw [← HSUB.out]; exact hU11, hfr11.mono (by omega), by have := HMORE.out hgt; omega, by omega, hbp10.trans (hb11.mono (by omega))⟩
                case measure => simp [intOf] <;> omega
              · have hdn := HDONE.out (by omega)
                have hcc : cmpN M S ≤ 0 := by unfold cmpN; split; omega; split <;> omega
                obtain ⟨ct, hct⟩ : ∃ ct, cmpN M S = ct := ⟨_, rfl⟩
                rw [hct] at hcc ⊢
                clear hct
                have hMS : M ≤ S := Nat.le_of_not_lt hgt
                have hown10d : Own .u64 145 w10.drew g (.slice (some ⟨g, 0, none⟩) n1 n1) qs := hown10
                have hmn := minus_any (some a6) Ap _ np c6 cp S M w10.drew hUr10 hUp10 (by omega) (by omega) hMS
                have hql10 := lt_of_block' hq10
                have hSM : S - M = S % b := by
                  have h3 := Nat.div_add_mod S b
                  have h4 := HMM.out
                  rw [hdn] at h4
                  omega
                have HSM := Lib.hid hSM; clear hSM
                have hz0' := HINV.out.low i (by omega)
                have HSET2 : QInv 1000000000 a b n1 i (qs.set i dn) := by rw [hdn]; exact HSET.out
                have HSETH := Lib.hid HSET2; clear HSET2
                have HDN := Lib.hid hdn; clear hdn
                have HZ0 := Lib.hid hz0'; clear hz0'
                have hin1 : i < n1 := by omega
                go_wp2_with fail
                go_region_with (with_reducible refine Calls.mono hmn ?_; rintro e w12 ⟨⟨A12, n12, c12, rfl, hU12, hfr12⟩, hb12⟩; have hown12 := hown10d.below hb12; have hrow12 := own_row hown12 hql1; have cg12 := row_cell hrow12 hin1 HZ0.out; have fg12 := hrow12.frozenAt i; have hq12 := (hb12.block _ hql10).trans hq10; have cq12 := cell1 hq12)
                all_goals go_wp2_with fail
                all_goals (
                  have hg12 : g < w10.heap.size := by omega
                  refine ⟨⟨i, qs.set i dn, A12, n12, c12, by omega, by go_num, rfl, ?_, hfr12.mono (by exact hg12), ?_, HSETH.out, ?_⟩, by simp [intOf] <;> omega⟩
                  · rw [setCell_size, HS1.out, ← HSM.out]
                    exact hU12.farSet hfr12 (by exact hg12) _
                  · have h3 := (hrow12.stored i (.int .u64 (dn : Int))).1
                    rw [← us_set] at h3
                    unfold Own
                    rw [List.length_set, hql1]
                    exact h3
                  · exact (hbw10.drew.trans (hb12.mono (by exact Nat.le_of_lt hg12))).setCell (p := ⟨g, i, none⟩) (Nat.le_refl _) _)

/-- division of magnitudes, the divisor not zero. -/
theorem div_any (A A' : Option Addr) (n n' c c' : Nat) (x y : Nat) (hy : 0 < y) (w : World) (h : IsU .u64 w w.heap.size A n c (pcs 1000000000 x)) (h' : IsU .u64 w w.heap.size A' n' c' (pcs 1000000000 y))
    (hm : n ≤ 2147483648) (hm' : n' ≤ 2147483648) :
    Calls Tryz.prog 106 #[.slice A n c, .slice A' n' c'] w fun e w' => DivRes x y e w' ∧ Below w.heap.size w w' := by
  rcases Nat.lt_or_ge x y with hlt | hge
  · exact div_less A A' n n' c c' x y hlt w h h' (by omega) (by omega)
  rcases Nat.lt_or_ge y 1000000000 with hs | hs
  · have hp : pcs 1000000000 y = [y] := by rw [pcs_one hs, show [y] = ([] : List Nat) ++ [y] from rfl, trimL_snoc_pos _ (by omega)]
    rw [hp] at h'
    obtain rfl : n' = 1 := h'.len.symm
    exact div_one A A' n c c' x y hy hs hge w h h' (by omega)
  · have hl0 : pcs 1000000000 y ≠ [] := by rw [Ne, pcs_nil_iff (by decide)]; omega
    have hl1 : 0 < (pcs 1000000000 y).length := List.length_pos_iff.2 hl0
    have h1 := pcs_len_lt (B := 1000000000) (by decide) y
    have h0 := pcs_len_le (B := 1000000000) (by decide) (n := y) (by omega)
    obtain ⟨k, hk⟩ : ∃ k, (pcs 1000000000 y).length = k + 1 := ⟨(pcs 1000000000 y).length - 1, by omega⟩
    rw [hk] at h0 h1
    refine div_big A A' n n' c c' x y k hge ?_ (by simpa using h0) h1 w h h' hm hm'
    rcases Nat.eq_zero_or_pos k with rfl | h2
    · simp at h1; omega
    · exact h2

end Go.Proofs.YtgfgpepdkffhbaaGreatDoor.Kl
