/- klippelaw03.scaled; surd.Scale; klippelaw03.SurdScales. -/
import Derived.Test.YtgfgpepdkffhbaaGreatDoorRationals
namespace Go.Proofs.YtgfgpepdkffhbaaGreatDoor.Kl
open Go.RowKit Go.Shelf
set_option linter.unusedVariables false
set_option linter.unusedSimpArgs false

theorem lt_of_block'' {W : World} {b : Nat} {o : Obj} (h : W.heap[b]? = some o) : b < W.heap.size := (Array.getElem?_eq_some_iff.1 h).1
theorem OwnT.lt {e : TypeId} {w : World} {base : Nat} {v : Value} {ts : List (ByteArray × ByteArray)} (h : OwnT e w base v ts) (g : Nat) (hg : v.ownBlock = some g) : g < w.heap.size := by
  rcases h.2 with ⟨rfl, _⟩ | ⟨g', cap, cur, rfl, _, hh, _⟩
  · simp [Value.ownBlock] at hg
  · have : g' = g := by simpa [Value.ownBlock] using hg
    subst this; exact lt_of_block' hh
theorem box_alloc {W : World} {b : Nat} {o : Obj} (o' : Obj) (h : W.heap[b]? = some o) : (W.alloc o').heap[b]? = some o := by
  rw [((Below.refl W.heap.size W).alloc (Nat.le_refl _) o').block b (lt_of_block'' h)]; exact h
theorem box_grown {W W' : World} {b : Nat} {o : Obj} {row : Option Nat} (h : W.heap[b]? = some o) (hg : W.grownBy W' row) (hne : some b ≠ row) : W'.heap[b]? = some o :=
  (hg.block b (lt_of_block'' h) hne).trans h
theorem timesL_take {l : List (Rat × Nat)} {k : Rat} {j : Nat} {p : Rat × Nat} (hp : l[j]? = some p) : timesL (l.take (j + 1)) k = timesL (l.take j) k ++ [(p.1 * k, p.2)] := by
  unfold timesL
  rw [List.take_add_one, hp]
  simp
theorem timesL_len (l : List (Rat × Nat)) (k : Rat) (j : Nat) : (tb (timesL (l.take j) k)).length ≤ j := by
  rw [tb_length]; unfold timesL
  rw [List.length_map]
  exact List.length_take_le _ _

theorem scaled_zero (A : Option Addr) (n c : Nat) (w : World) (hn : n ≤ 1000000) :
    Calls Tryz.prog 25 #[.slice A n c, .string (rtxt 0)] w fun e w' => e = .returned (.slice none 0 0) ∧ Below w.heap.size w w' := by
  rw [rtxt_zero]
  by_cases h0 : n = 0
  · subst h0
    go_enter Tryz.func25, Tryz.ntmps25
    go_wp2_with fail
    go_loopw [5, 6] (fun o iv wr => Value.slice none 0 0 = o ∧ iv = .int .i64 0 ∧ Below w.heap.size w wr) (fun _ iv _ => 0)
    case atStart => exact ⟨rfl, rfl, Below.refl _ _⟩
    case round =>
      obtain ⟨rfl, rfl, hb⟩ := hrel
      go_wp2_with fail
      go_ret
      exact ⟨rfl, hb⟩
  · have hd : decide ((0 : Int) < (n : Int)) = true := decide_eq_true (by omega)
    go_enter Tryz.func25, Tryz.ntmps25
    go_wp2_with fail
    go_loopw [5, 6] (fun o iv wr => Value.slice none 0 0 = o ∧ iv = .int .i64 0 ∧ Below w.heap.size w wr) (fun _ iv _ => 0)
    case atStart => exact ⟨rfl, rfl, Below.refl _ _⟩
    case round =>
      obtain ⟨rfl, rfl, hb⟩ := hrel
      go_wp2_with fail
      go_ret
      exact ⟨rfl, hb⟩

set_option maxRecDepth 100000 in
set_option maxHeartbeats 4000000 in
theorem scaled_any (A : Option Addr) (n c : Nat) (l : List (Rat × Nat)) (k : Rat) (w : World) (hW : Wd w) (h : IsT w w.heap.size A n c (tb l)) (hm : n ≤ 1000) (hk : RS k) (h0 : k.num ≠ 0) (hr : ∀ p ∈ l, RS p.1) :
    Calls Tryz.prog 25 #[.slice A n c, .string (rtxt k)] w fun e w' => (∃ A1 c1, e = .returned (.slice A1 n c1) ∧ IsT w' w'.heap.size A1 n c1 (tb (timesL l k))) ∧ Below w.heap.size w w' := by
  obtain ⟨i0, hi0, hz0, hz1, hz2⟩ := term_parts info_rterm
  have hln : l.length = n := by have := h.len; rw [tb_length] at this; exact this
  have HLN := Lib.hid hln; clear hln
  have hz := rtxt_is_zero k
  rw [decide_eq_false h0] at hz
  obtain ⟨KT, hKT⟩ : ∃ K, rtxt k = K := ⟨_, rfl⟩
  have tim : ∀ (q : Rat), RS q → ∀ w, Wd w → Calls Tryz.prog 46 #[.string (rtxt q), .string KT] w fun e w' => e = .returned (.string (rtxt (q * k))) ∧ Below w.heap.size w w' := by
    intro q hq w hW
    have := refTimes_any q k hq hk w hW
    rw [hKT] at this; exact this
  rw [hKT] at hz ⊢
  have hz2' : (KT.toList != [48]) = true := by simp [bne, hz]
  clear hKT
  have HTIM := Lib.hid tim; clear tim
  have HRB := Lib.hid hr; clear hr
  have HHB := Lib.hid h; clear h
  go_enter Tryz.func25, Tryz.ntmps25
  go_wp2_with fail
  go_loopw [5, 6] (fun o iv wr => ∃ (ov : Value) (j : Nat), ov = o ∧ iv = .int .i64 (j : Int) ∧ j ≤ n ∧ OwnT 39 wr w.heap.size ov (tb (timesL (l.take j) k)) ∧ Below w.heap.size w wr) (fun _ iv _ => n - (intOf iv).toNat)
  case atStart => exact ⟨_, 0, rfl, rfl, Nat.zero_le _, OwnT.nil _ _ _, Below.refl _ _⟩
  case round =>
    obtain ⟨ov, j, rfl, rfl, hj, hown, hbel⟩ := hrel
    have hwg := hbel.size
    by_cases hjn : j < n
    · obtain ⟨ad, t, rfl, hab, htk, hc1, hc2⟩ := (HHB.out.below hbel).at_ hjn
      obtain ⟨p, hp, rfl⟩ := tb_get htk
      rw [add_next] at hc2
      have hpr := HRB.out p (List.mem_of_getElem? hp)
      have hol := timesL_len l k j
      have hst : tb (timesL (l.take (j + 1)) k) = tb (timesL (l.take j) k) ++ [(rtxt (p.1 * k), txt (p.2 : Int))] := by rw [timesL_take hp, tb_snoc]
      have HST := Lib.hid hst
      have hC : ∀ w', Below w.heap.size w w' → w'.cell? (ad.add (j * 2)) = some (.string (rtxt p.1)) ∧ w'.cell? ⟨(ad.add (j * 2)).block, (ad.add (j * 2)).off + 1, none⟩ = some (.string (txt (p.2 : Int))) := by
        intro w' hb'
        obtain ⟨ad', t', e1, _, htk', d1, d2⟩ := (HHB.out.below hb').at_ hjn
        cases e1
        rw [htk] at htk'
        cases htk'
        rw [add_next] at d2
        exact ⟨d1, d2⟩
      have hct := HTIM.out p.1 hpr
      have HC := Lib.hid hC
      clear hC htk hp hst hc1 hc2
      obtain ⟨O, hO⟩ : ∃ O, tb (timesL (l.take j) k) = O := ⟨_, rfl⟩
      obtain ⟨FP, hFP⟩ : ∃ F, rtxt p.1 = F := ⟨_, rfl⟩
      obtain ⟨FK, hFK⟩ : ∃ F, rtxt (p.1 * k) = F := ⟨_, rfl⟩
      obtain ⟨GP, hGP⟩ : ∃ F, txt (p.2 : Int) = F := ⟨_, rfl⟩
      rw [hO, hFK, hGP] at HST
      rw [hO] at hown hol
      rw [hFP, hGP] at HC
      rw [hFP, hFK] at hct
      clear hO hFP hFK hGP
      go_wp2_with fail
      have hBd : Below w.heap.size w wr.drew := hbel.drew
      have hgd : w.heap.size ≤ wr.drew.heap.size := hBd.size
      have hwdd : Wd wr.drew := hW.below hBd
      have hownd : OwnT 39 wr.drew w.heap.size ov O := hown
      obtain ⟨z1, z2⟩ := HC.out _ hBd
      have hc1 := hct wr.drew hwdd
      obtain ⟨hm1, hn1⟩ := len_ok (show O.length ≤ 200000 by omega)
      clear hct
      go_region_held3 (fun w' : World => w'.cell? (ad.add (j * 2)) = some (.string FP) ∧ w'.cell? ⟨(ad.add (j * 2)).block, (ad.add (j * 2)).off + 1, none⟩ = some (.string GP)) (first | exact ⟨by assumption, by assumption⟩ | go_keep) (first
        | (with_reducible refine Calls.mono hc1 ?_; rintro e wz ⟨rfl, hb5⟩; have hBwz := hBd.trans (hb5.mono hgd); have y := HC.out _ hBwz; have y1 := y.1; have y2 := y.2; have hownz := hownd.keep hb5 (Nat.le_refl _); have ha_p := hBwz.alloc hBwz.size (.cells #[.string FK, .string GP] 39); have hs_p := ha_p.size; have hp_p := hownz.alloc (.cells #[.string FK, .string GP] 39); have hq_p := OwnT.base' hp_p; have hc_p := new_cell0 wz (.string FK) (.string GP) 39; have hd_p := new_cell1 wz (.string FK) (.string GP) 39)
        | (refine step_append_term _ rfl _ _ 30 rfl w.heap.size 39 i0 Tryz.underlying30 hi0 hz0 hz1 hz2 _ O rfl hp_p wz.heap.size 1 (FK, GP) rfl hc_p hd_p hm1 hn1 hs_p ?_; intro v2 w2 hown2 hgr; have hBw2 := ha_p.grown hgr hs_p hq_p; have x := HC.out _ hBw2; have x1 := x.1; have x2 := x.2))
      all_goals go_wp2_with fail
      all_goals exact ⟨⟨_, j + 1, rfl, by congr 1, hjn, by rw [HST.out]; exact hown2, hBw2⟩, by simp [intOf]; omega⟩
    · have hje : j = n := by omega
      subst hje
      have hte : l.take j = l := List.take_of_length_le (by have := HLN.out; omega)
      rw [hte] at hown
      obtain ⟨AA, cA, rfl, hT⟩ := hown.form
      have htl : (tb (timesL l k)).length = j := by rw [tb_length]; unfold timesL; rw [List.length_map]; exact HLN.out
      rw [htl] at hT ⊢
      have HT := Lib.hid hT
      clear hte hown htl hT
      go_wp2_with fail
      go_ret
      exact ⟨⟨AA, cA, rfl, HT.out⟩, hbel⟩

theorem RS.sz {q : Rat} (h : RS q) : Sz q 900000 := ⟨Nat.le_trans h.num.itoa (by decide), Nat.le_trans h.den.itoa (by decide)⟩

theorem sscale_wrong (A : Option Addr) (n c : Nat) (l : List (Rat × Nat)) (hl : Sound l) (s : ByteArray) (hs : s.size ≤ 4294967280) (hr : ¬ RightR s.data.toList) (w : World) (hW : Wd w) (h : IsT w w.heap.size A n c (tb l)) (hm : n ≤ 40) :
    Calls Tryz.prog 24 #[.slice A n c, .string s] w fun e w' => e = .returned (.tuple #[.slice none 0 0, .int .i64 2]) ∧ Below w.heap.size w w' := by
  have g1 := scheck_any A n c l hl w hW h hm
  have g2 := fun w hW => checkR_wrong s hs hr w hW
  go_enter Tryz.func24, Tryz.ntmps24
  go_wp2_with fail
  with_reducible refine Calls.mono g1 ?_
  rintro e w1 ⟨rfl, hb1⟩
  have g3 := g2 w1 (hW.below hb1)
  go_wp2_with fail
  with_reducible refine Calls.mono g3 ?_
  rintro e w2 ⟨rfl, hb2⟩
  go_wp2_with fail
  go_ret2
  exact ⟨rfl, below_tr hb1 hb2⟩
theorem sscale_zero (A : Option Addr) (n c : Nat) (l : List (Rat × Nat)) (hl : Sound l) (w : World) (hW : Wd w) (h : IsT w w.heap.size A n c (tb l)) (hm : n ≤ 40) :
    Calls Tryz.prog 24 #[.slice A n c, .string (rtxt 0)] w fun e w' => e = .returned (.tuple #[.slice none 0 0, .int .i64 0]) ∧ Below w.heap.size w w' := by
  have g1 := scheck_any A n c l hl w hW h hm
  have g2 := fun w hW => checkR_right 0 (RS.two (by decide) (by decide)) w hW
  rw [rtxt_zero] at g2 ⊢
  go_enter Tryz.func24, Tryz.ntmps24
  go_wp2_with fail
  with_reducible refine Calls.mono g1 ?_
  rintro e w1 ⟨rfl, hb1⟩
  have g3 := g2 w1 (hW.below hb1)
  go_wp2_with fail
  with_reducible refine Calls.mono g3 ?_
  rintro e w2 ⟨rfl, hb2⟩
  go_wp2_with fail
  go_ret2
  exact ⟨rfl, below_tr hb1 hb2⟩

set_option maxRecDepth 100000 in
set_option maxHeartbeats 4000000 in
theorem sscale_any (A : Option Addr) (n c : Nat) (l : List (Rat × Nat)) (hl : Sound l) (k : Rat) (w : World) (hW : Wd w) (h : IsT w w.heap.size A n c (tb l)) (hm : n ≤ 40) (hk : RS k) (h0 : k.num ≠ 0) (hr : ∀ p ∈ l, RS (p.1 * k)) :
    Calls Tryz.prog 24 #[.slice A n c, .string (rtxt k)] w fun e w' => (∃ A1 c1, e = .returned (.tuple #[.slice A1 n c1, .int .i64 0]) ∧ IsT w' w'.heap.size A1 n c1 (tb (timesL l k))) ∧ Below w.heap.size w w' := by
  obtain ⟨i0, hi0, hz0, hz1, hz2⟩ := term_parts info_sterm
  have hln : l.length = n := by have := h.len; rw [tb_length] at this; exact this
  have HLN := Lib.hid hln; clear hln
  have g1 := scheck_any A n c l hl w hW h hm
  have g2 := fun w hW => checkR_right k hk w hW
  have hz := rtxt_is_zero k
  rw [decide_eq_false h0] at hz
  obtain ⟨KT, hKT⟩ : ∃ K, rtxt k = K := ⟨_, rfl⟩
  have tim : ∀ (q : Rat), RS q → ∀ w, Wd w → Calls Tryz.prog 60 #[.string (rtxt q), .string KT] w fun e w' => e = .returned (.string (rtxt (q * k))) ∧ Below w.heap.size w w' := by
    intro q hq w hW
    have := rmul_any q k hq.sz hk.sz w hW
    rw [hKT] at this; exact this
  have hgood : (∀ t ∈ tb (timesL l k), ShortT t) ∧ ∀ t ∈ tb (timesL l k), GoodT t := by
    have key : ∀ t ∈ tb (timesL l k), ∃ p ∈ l, t = (rtxt (p.1 * k), txt (p.2 : Int)) := by
      intro t ht
      unfold tb timesL at ht
      rw [List.map_map, List.mem_map] at ht
      obtain ⟨p, hp, rfl⟩ := ht
      exact ⟨p, hp, rfl⟩
    constructor
    · intro t ht
      obtain ⟨p, hp, rfl⟩ := key t ht
      have h1 := rtl_rs (hr p hp)
      have h2 := (hl.1 p hp).2.2.1.itoa
      exact ⟨by show (rtxt (p.1 * k)).size ≤ _; rw [rtxt_size]; omega, by show (txt (p.2 : Int)).size ≤ _; rw [txt_size]; omega⟩
    · intro t ht
      obtain ⟨p, hp, rfl⟩ := key t ht
      exact ⟨⟨p.1 * k, rtxt_list _, (hr p hp).1, (hr p hp).2⟩, ⟨p.2, txt_list _, (hl.1 p hp).2.2.1⟩⟩
  have HGOOD := Lib.hid hgood; clear hgood
  rw [hKT] at hz g2 ⊢
  clear hKT
  have HTIM := Lib.hid tim; clear tim
  have HRB := Lib.hid hl; clear hl
  have HHB := Lib.hid h; clear h
  go_enter Tryz.func24, Tryz.ntmps24
  go_wp2_with fail
  with_reducible refine Calls.mono g1 ?_
  rintro e w1 ⟨rfl, hb1⟩
  have g3 := g2 w1 (hW.below hb1)
  clear g1 g2
  go_wp2_with fail
  with_reducible refine Calls.mono g3 ?_
  rintro e w2 ⟨rfl, hb2⟩
  have hB2 := below_tr hb1 hb2
  clear g3 hb1 hb2
  go_wp2_with fail
  go_loopw [7, 22] (fun o iv wr => ∃ (ov : Value) (j : Nat), ov = o ∧ iv = .int .i64 (j : Int) ∧ j ≤ n ∧ OwnT 45 wr w.heap.size ov (tb (timesL (l.take j) k)) ∧ Below w.heap.size w wr) (fun _ iv _ => n - (intOf iv).toNat)
  case atStart => exact ⟨_, 0, rfl, rfl, Nat.zero_le _, OwnT.nil _ _ _, hB2⟩
  case round =>
    clear hB2
    obtain ⟨ov, j, rfl, rfl, hj, hown, hbel⟩ := hrel
    have hwg := hbel.size
    by_cases hjn : j < n
    · obtain ⟨ad, t, rfl, hab, htk, hc1, hc2⟩ := (HHB.out.below hbel).at_ hjn
      obtain ⟨p, hp, rfl⟩ := tb_get htk
      rw [add_next] at hc2
      have hpr := (HRB.out.1 p (List.mem_of_getElem? hp)).1
      have hol := timesL_len l k j
      have hst : tb (timesL (l.take (j + 1)) k) = tb (timesL (l.take j) k) ++ [(rtxt (p.1 * k), txt (p.2 : Int))] := by rw [timesL_take hp, tb_snoc]
      have HST := Lib.hid hst
      have hct := HTIM.out p.1 hpr
      clear htk hp hst
      obtain ⟨O, hO⟩ : ∃ O, tb (timesL (l.take j) k) = O := ⟨_, rfl⟩
      obtain ⟨FP, hFP⟩ : ∃ F, rtxt p.1 = F := ⟨_, rfl⟩
      obtain ⟨FK, hFK⟩ : ∃ F, rtxt (p.1 * k) = F := ⟨_, rfl⟩
      obtain ⟨GP, hGP⟩ : ∃ F, txt (p.2 : Int) = F := ⟨_, rfl⟩
      rw [hO, hFK, hGP] at HST
      rw [hO] at hown hol
      rw [hFP] at hc1
      rw [hGP] at hc2
      rw [hFP, hFK] at hct
      clear hO hFP hFK hGP
      have hbx := heap_alloc_new wr (.cells #[.string FP, .string GP] 45)
      have hba := hbel.alloc hbel.size (.cells #[.string FP, .string GP] 45)
      have hoa := hown.alloc (.cells #[.string FP, .string GP] 45)
      have hneb : some wr.heap.size ≠ ov.ownBlock := fun e => Nat.lt_irrefl _ (hown.lt _ e.symm)
      go_wp2_with fail
      obtain ⟨Wb, hWb⟩ : ∃ W, wr.alloc (.cells #[.string FP, .string GP] 45) = W := ⟨_, rfl⟩
      obtain ⟨b, hbb⟩ : ∃ b, wr.heap.size = b := ⟨_, rfl⟩
      rw [hWb] at hbx hba hoa ⊢
      rw [hbb] at hbx hneb ⊢
      have hbl : b < Wb.heap.size := lt_of_block' hbx
      clear hWb hbb hc1 hc2 hown hbel
      have hBd : Below w.heap.size w Wb.drew := hba.drew
      have hgd : w.heap.size ≤ Wb.drew.heap.size := hBd.size
      have hwdd : Wd Wb.drew := hW.below hBd
      have hownd : OwnT 45 Wb.drew w.heap.size ov O := hoa
      have hbxd : Wb.drew.heap[b]? = some (.cells #[.string FP, .string GP] 45 (0, 0)) := hbx
      obtain ⟨z1, z2⟩ := cell2 hbxd
      have hc1 := hct Wb.drew hwdd
      obtain ⟨hm1, hn1⟩ := len_ok (show O.length ≤ 200000 by omega)
      clear hct
      go_region_held3 (fun w' : World => w'.cell? ⟨b, 0, none⟩ = some (.string FP) ∧ w'.cell? ⟨b, 1, none⟩ = some (.string GP)) (first | exact ⟨by assumption, by assumption⟩ | go_keep) (first
        | ((with_reducible refine Calls.mono hc1 ?_); rintro e wz ⟨rfl, hb5⟩; have hBwz := hBd.trans (hb5.mono hgd); have q1 := (hb5.block b hbl).trans hbxd; have q2 := box_alloc (.cells #[.string FK, .string GP] 45) q1; have y := cell2 q1; have y1 := y.1; have y2 := y.2; have r := cell2 q2; have r1 := r.1; have r2 := r.2; have hownz := hownd.keep hb5 (Nat.le_refl _); have ha_p := hBwz.alloc hBwz.size (.cells #[.string FK, .string GP] 45); have hs_p := ha_p.size; have hp_p := hownz.alloc (.cells #[.string FK, .string GP] 45); have hq_p := OwnT.base' hp_p; have hc_p := new_cell0 wz (.string FK) (.string GP) 45; have hd_p := new_cell1 wz (.string FK) (.string GP) 45)
        | (refine step_append_term _ rfl _ _ 25 rfl w.heap.size 45 i0 Tryz.underlying25 hi0 hz0 hz1 hz2 _ O rfl hp_p wz.heap.size 1 (FK, GP) rfl hc_p hd_p hm1 hn1 hs_p ?_; intro v2 w3 hown2 hgr; have hBw2 := ha_p.grown hgr hs_p hq_p; have x := cell2 (box_grown q2 hgr hneb); have x1 := x.1; have x2 := x.2))
      all_goals go_wp2_with fail
      all_goals exact ⟨⟨_, j + 1, rfl, by congr 1, hjn, by rw [HST.out]; exact hown2, hBw2⟩, by simp [intOf]; omega⟩
    · have hje : j = n := by omega
      subst hje
      have hte : l.take j = l := List.take_of_length_le (by have := HLN.out; omega)
      rw [hte] at hown
      obtain ⟨AA, cA, rfl, hT⟩ := hown.form
      have htl : (tb (timesL l k)).length = j := by rw [tb_length]; unfold timesL; rw [List.length_map]; exact HLN.out
      rw [htl] at hT ⊢
      have hres := result_yes AA j cA _ HGOOD.out.1 HGOOD.out.2 wr (hW.below hbel) hT (by omega)
      have HT := Lib.hid hT
      clear hte hown htl hT
      go_wp2_with fail
      with_reducible refine Calls.mono hres ?_
      rintro e w9 ⟨rfl, hb9⟩
      go_wp2_with fail
      go_ret2
      exact ⟨⟨AA, cA, rfl, HT.out.to hb9 (Nat.le_refl _)⟩, below_tr hbel hb9⟩
end Go.Proofs.YtgfgpepdkffhbaaGreatDoor.Kl
