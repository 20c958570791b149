/- klippelaw03.made; klippelaw03.Make: the lists of the statements. -/
import Derived.Test.YtgfgpepdkffhbaaGreatDoorParts
namespace Go.Proofs.YtgfgpepdkffhbaaGreatDoor.Kl
open Go.RowKit Go.Shelf
set_option linter.unusedVariables false
set_option linter.unusedSimpArgs false

set_option maxRecDepth 100000 in
set_option maxHeartbeats 1000000 in
theorem lawmade_any (A : Option Addr) (n c : Nat) (ts : List (ByteArray × ByteArray)) (w : World) (h : IsT w w.heap.size A n c ts) (hm : n ≤ 1000000) :
    Calls Tryz.prog 41 #[.slice A n c] w fun e w' => (∃ A1 c1, e = .returned (.slice A1 n c1) ∧ IsT w' w'.heap.size A1 n c1 ts) ∧ Below w.heap.size w w' := by
  obtain ⟨i0, hi0, hz0, hz1, hz2⟩ := term_parts info_sterm
  have hlen := h.len
  have HL := Lib.hid hlen; clear hlen
  go_enter Tryz.func41, Tryz.ntmps41
  go_wp2_with fail
  go_loopw [3, 4] (fun v iv wr => ∃ k : Nat, iv = .int .i64 (k : Int) ∧ k ≤ n ∧ OwnT 45 wr w.heap.size v (ts.take k) ∧ Below w.heap.size w wr) (fun _ iv _ => n - (intOf iv).toNat)
  case atStart => exact ⟨0, rfl, Nat.zero_le _, OwnT.nil _ _ _, Below.refl _ _⟩
  case round =>
    obtain ⟨k, rfl, hk, hown, hbel⟩ := hrel
    by_cases hkn : k < n
    · obtain ⟨ad, t, rfl, hb, htk, hc1, hc2⟩ := (h.below hbel).at_ hkn
      rw [add_next] at hc2
      have htl : (ts.take k).length ≤ 1000000 := by rw [List.length_take]; omega
      have hsn : ts.take (k + 1) = ts.take k ++ [t] := by rw [List.take_add_one, htk]; rfl
      have HSN := Lib.hid hsn; clear hsn htk
      obtain ⟨us, hus⟩ : ∃ us, ts.take k = us := ⟨_, rfl⟩
      rw [hus] at hown htl HSN
      clear hus
      go_wp2_with fail
      have hal : Below w.heap.size w (wr.alloc (.cells #[.string t.1, .string t.2] 45)).drew := (hbel.alloc hbel.size _).drew
      have hHB := Lib.hid hal; clear hal
      have hwg : w.heap.size ≤ wr.heap.size := hbel.size
      go_region_law (refine step_append_term _ rfl _ _ 25 rfl w.heap.size 45 i0 Tryz.underlying25 hi0 hz0 hz1 hz2 _ us (by simp [Act.eval, Act.put]) (hown.alloc _) wr.heap.size 1 t (by simp [Act.eval, Act.put]) (by simp) (by simp) (by unfold maxLen; omega) (by omega) (by simp; omega) ?_; intro v' w2 hown' hgrow)
      all_goals (
        have hb2 : Below w.heap.size w w2 := hHB.out.grown hgrow (by simp; omega) (hown.base')
        have HOW : RowKit.Hid (OwnT 45 w2 w.heap.size v' (ts.take (k + 1))) := by
          have := HSN.out
          rw [this]; exact hown'
        clear hown' hgrow hHB hown)
      all_goals go_simp
      all_goals go_wp2_with fail
      all_goals exact ⟨⟨k + 1, by congr 1, hkn, HOW.out, hb2⟩, by simp [intOf]; omega⟩
    · have hke : k = n := by omega
      obtain ⟨A1, c1, rfl, hT⟩ := hown.form
      subst hke
      have hte : ts.take k = ts := List.take_of_length_le (by have := HL.out; omega)
      rw [hte, HL.out] at hT
      rw [hte, HL.out]
      clear hte
      go_wp2_with fail
      go_ret
      exact ⟨⟨A1, c1, rfl, hT⟩, hbel⟩

/-- parts as cells, and a slice of parts. -/
def psv (ps : List (Int × Nat × Nat)) : List Value := ps.flatMap fun p => [Value.int .i8 p.1, Value.int .u8 (p.2.1 : Int), Value.int .u8 (p.2.2 : Int)]
theorem psv_length (ps : List (Int × Nat × Nat)) : (psv ps).length = ps.length * 3 := by
  induction ps with
  | nil => rfl
  | cons t ts ih => simp [psv] at ih ⊢; omega
structure IsP (w : World) (B : Nat) (A : Option Addr) (n c : Nat) (ps : List (Int × Nat × Nat)) : Prop where
  len : ps.length = n
  cap : n ≤ c
  reads : Reads w B 3 A n (psv ps)
  fits : ∀ p ∈ ps, -128 ≤ p.1 ∧ p.1 ≤ 127 ∧ p.2.1 < 256 ∧ p.2.2 < 256
theorem psv_get (ps : List (Int × Nat × Nat)) (j : Nat) (p : Int × Nat × Nat) (h : ps[j]? = some p) : (psv ps)[j * 3]? = some (.int .i8 p.1) ∧ (psv ps)[j * 3 + 1]? = some (.int .u8 (p.2.1 : Int)) ∧ (psv ps)[j * 3 + 2]? = some (.int .u8 (p.2.2 : Int)) := by
  induction ps generalizing j with
  | nil => simp at h
  | cons u ts ih =>
    cases j with
    | zero => simp at h; subst h; simp [psv]
    | succ j =>
      simp at h
      obtain ⟨h1, h2, h3⟩ := ih j h
      have e : psv (u :: ts) = [Value.int .i8 u.1, Value.int .u8 (u.2.1 : Int), Value.int .u8 (u.2.2 : Int)] ++ psv ts := by simp [psv]
      rw [e]
      refine ⟨?_, ?_, ?_⟩
      · rw [List.getElem?_append_right (by simp; omega)]
        simpa [show (j + 1) * 3 - 3 = j * 3 by omega] using h1
      · rw [List.getElem?_append_right (by simp; omega)]
        simpa [show (j + 1) * 3 + 1 - 3 = j * 3 + 1 by omega] using h2
      · rw [List.getElem?_append_right (by simp; omega)]
        simpa [show (j + 1) * 3 + 2 - 3 = j * 3 + 2 by omega] using h3
section
variable {w w' : World} {B n c : Nat} {A : Option Addr} {ps : List (Int × Nat × Nat)}
theorem IsP.below (h : IsP w B A n c ps) (hb : Below B w w') : IsP w' B A n c ps := ⟨h.len, h.cap, h.reads.below hb, h.fits⟩
theorem IsP.at_ (h : IsP w B A n c ps) {j : Nat} (hj : j < n) : ∃ ad p, A = some ad ∧ ad.block < B ∧ ps[j]? = some p ∧ w.cell? (ad.add (j * 3)) = some (.int .i8 p.1) ∧ w.cell? (ad.add (j * 3 + 1)) = some (.int .u8 (p.2.1 : Int)) ∧ w.cell? (ad.add (j * 3 + 2)) = some (.int .u8 (p.2.2 : Int)) := by
  obtain ⟨ad, e, hb, hc⟩ := h.reads.2 (by omega)
  have hl : j < ps.length := by rw [h.len]; exact hj
  obtain ⟨h1, h2, h3⟩ := psv_get ps j _ (List.getElem?_eq_getElem hl)
  exact ⟨ad, _, e, hb, List.getElem?_eq_getElem hl, hc _ _ h1, hc _ _ h2, hc _ _ h3⟩
end
theorem add_next2 (ad : Addr) (m : Nat) : ad.add (m + 2) = ⟨(ad.add m).block, (ad.add m).off + 2, none⟩ := by
  rw [show m + 2 = (m + 1) + 1 by omega, add_next, add_next]

theorem cell_old {W W' : World} {p : Addr} {v : Value} (hb : Below W.heap.size W W') (hp : p.block < W.heap.size) (h : W.cell? p = some v) : W'.cell? p = some v := by
  rw [hb.cell hp]; exact h
theorem new_den (W : World) (k D : Nat) (hk : k < 6) (hD : D = [1, 2, 3, 4, 6, 12].getD k 1) : (W.alloc (.cells #[.int .i64 1, .int .i64 2, .int .i64 3, .int .i64 4, .int .i64 6, .int .i64 12] 3)).cell? ⟨W.heap.size, k, none⟩ = some (.int .i64 (D : Int)) := by
  subst hD
  match k, hk with
  | 0, _ => simp
  | 1, _ => simp
  | 2, _ => simp
  | 3, _ => simp
  | 4, _ => simp
  | 5, _ => simp
theorem dec_four : Lib.decDigits 1009 = [49, 48, 48, 57] := by
  rw [dec_big (by decide), show 1009 / 10 = 100 from rfl, dec_big (by decide), show 100 / 10 = 10 * 1 + 0 from rfl, dec_two (by decide) (by decide) (by decide)]
  rfl
theorem krad1 : txt ((1 : Nat) : Int) = (⟨#[49]⟩ : ByteArray) := by apply bytes_ext; rw [txt_list, itoa_1 (by decide)]; rfl
theorem krad2 : txt ((2 : Nat) : Int) = (⟨#[50]⟩ : ByteArray) := by apply bytes_ext; rw [txt_list, itoa_1 (by decide)]; rfl
theorem krad3 : txt ((3 : Nat) : Int) = (⟨#[51]⟩ : ByteArray) := by apply bytes_ext; rw [txt_list, itoa_1 (by decide)]; rfl
theorem krad8 : txt ((8 : Nat) : Int) = (⟨#[56]⟩ : ByteArray) := by apply bytes_ext; rw [txt_list, itoa_1 (by decide)]; rfl
theorem krad6 : txt ((6 : Nat) : Int) = (⟨#[54]⟩ : ByteArray) := by apply bytes_ext; rw [txt_list, itoa_1 (by decide)]; rfl
theorem krad12 : txt ((12 : Nat) : Int) = (⟨#[49, 50]⟩ : ByteArray) := by apply bytes_ext; rw [txt_list, show ((12 : Nat) : Int) = ((10 * 1 + 2 : Nat) : Int) from rfl, itoa_2 (by decide) (by decide) (by decide)]; rfl
theorem krad10 : txt ((10 : Nat) : Int) = (⟨#[49, 48]⟩ : ByteArray) := by apply bytes_ext; rw [txt_list, show ((10 : Nat) : Int) = ((10 * 1 + 0 : Nat) : Int) from rfl, itoa_2 (by decide) (by decide) (by decide)]; rfl
theorem krad50 : txt ((50 : Nat) : Int) = (⟨#[53, 48]⟩ : ByteArray) := by apply bytes_ext; rw [txt_list, show ((50 : Nat) : Int) = ((10 * 5 + 0 : Nat) : Int) from rfl, itoa_2 (by decide) (by decide) (by decide)]; rfl
theorem krad30 : txt ((30 : Nat) : Int) = (⟨#[51, 48]⟩ : ByteArray) := by apply bytes_ext; rw [txt_list, show ((30 : Nat) : Int) = ((10 * 3 + 0 : Nat) : Int) from rfl, itoa_2 (by decide) (by decide) (by decide)]; rfl
theorem krad1009 : txt ((1009 : Nat) : Int) = (⟨#[49, 48, 48, 57]⟩ : ByteArray) := by apply bytes_ext; rw [txt_list, itoa_nat, dec_four]
theorem new_rad (W : World) (k r : Nat) (hk : k < 10) (hr : r = radL.getD k 1) : (W.alloc (.cells #[.string ⟨#[49]⟩, .string ⟨#[50]⟩, .string ⟨#[51]⟩, .string ⟨#[56]⟩, .string ⟨#[54]⟩, .string ⟨#[49, 50]⟩, .string ⟨#[49, 48]⟩, .string ⟨#[53, 48]⟩, .string ⟨#[51, 48]⟩, .string ⟨#[49, 48, 48, 57]⟩] 35)).cell? ⟨W.heap.size, k, none⟩ = some (.string (txt (r : Int))) := by
  subst hr
  match k, hk with
  | 0, _ => rw [show radL.getD 0 1 = 1 from rfl, krad1]; simp
  | 1, _ => rw [show radL.getD 1 1 = 2 from rfl, krad2]; simp
  | 2, _ => rw [show radL.getD 2 1 = 3 from rfl, krad3]; simp
  | 3, _ => rw [show radL.getD 3 1 = 8 from rfl, krad8]; simp
  | 4, _ => rw [show radL.getD 4 1 = 6 from rfl, krad6]; simp
  | 5, _ => rw [show radL.getD 5 1 = 12 from rfl, krad12]; simp
  | 6, _ => rw [show radL.getD 6 1 = 10 from rfl, krad10]; simp
  | 7, _ => rw [show radL.getD 7 1 = 50 from rfl, krad50]; simp
  | 8, _ => rw [show radL.getD 8 1 = 30 from rfl, krad30]; simp
  | 9, _ => rw [show radL.getD 9 1 = 1009 from rfl, krad1009]; simp
theorem step_ok (l : List (Int × Nat × Nat)) (i : Nat) (hi : i < 6) (p : Int × Nat × Nat) : RadL (makeZ l i ++ [partZ p]) ∧ AllOk (toR (makeZ l i ++ [partZ p])) := by
  have h := makeZ_ok l i (by omega)
  have hr : RadL (makeZ l i ++ [partZ p]) := fun q hq => by
    rw [List.mem_append, List.mem_singleton] at hq
    rcases hq with hq | hq
    · exact h.rad q hq
    · rw [hq]; exact radOf_mem p.2.2
  refine ⟨hr, allOk_toR hr ?_ ?_⟩
  · rw [List.length_append, List.length_singleton]
    have := h.len
    omega
  · rw [wsum_append]
    have h1 := wsum_le h.le
    have h2 := partZ_le p
    have h3 : wsum [partZ p] = (partZ p).1.natAbs := by simp [wsum]
    have h4 := Nat.mul_le_mul_right (2400 * 7 ^ i) (Nat.le_trans h.len (show i ≤ 6 by omega))
    have h5 : 7 ^ i ≤ 7 ^ 6 := Nat.pow_le_pow_right (by decide) (by omega)
    have h6 : 6 * (2400 * 7 ^ 6) + 2400 < 10 ^ 100 := by decide
    have h7 := Nat.mul_le_mul_left 6 (Nat.mul_le_mul_left 2400 h5)
    omega
theorem join_step (m : List (Int × Nat)) (p : Int × Nat × Nat) (X : Int) (D R : Nat) (hX : p.1.tmod 41 = X) (hD : denOf p.2.1 = D) (hR : radOf p.2.2 = R) : joinAll (toR m) [(Rat.divInt X (D : Int), R)] 1 = toR (m ++ [partZ p]) := by
  unfold joinAll timesL toR
  rw [List.map_append]
  congr 1
  rw [List.map_cons, List.map_cons, List.map_nil, List.map_nil, Rat.mul_one, partZ_q, hX, hD]
  simp only [partZ, hR]
theorem below_tr {w a b : World} (h1 : Below w.heap.size w a) (h2 : Below a.heap.size a b) : Below w.heap.size w b := h1.trans (h2.mono h1.size)

set_option maxRecDepth 100000 in
set_option maxHeartbeats 4000000 in
theorem make_any (A : Option Addr) (n c : Nat) (ps : List (Int × Nat × Nat)) (w : World) (hW : Wd w) (h : IsP w w.heap.size A n c ps) (hm : n ≤ 6) :
    Calls Tryz.prog 15 #[.slice A n c] w fun e w' => (∃ A1 n1 c1, e = .returned (.slice A1 n1 c1) ∧ n1 = (makeZ ps n).length ∧ IsT w' w'.heap.size A1 n1 c1 (tb (toR (makeZ ps n)))) ∧ Below w.heap.size w w' := by
  have hlen := h.len
  have HL := Lib.hid hlen; clear hlen
  have HH := Lib.hid h; clear h
  go_enter Tryz.func15, Tryz.ntmps15
  go_wp2_with fail
  go_loopw [3, 4] (fun o iv wr => ∃ (A1 : Option Addr) (n1 c1 i : Nat), Value.slice A1 n1 c1 = o ∧ iv = .int .i64 (i : Int) ∧ i ≤ n ∧ n1 = (makeZ ps i).length ∧ IsT wr wr.heap.size A1 n1 c1 (tb (toR (makeZ ps i))) ∧ Below w.heap.size w wr) (fun _ iv _ => n - (intOf iv).toNat)
  case atStart => exact ⟨none, 0, 0, 0, rfl, rfl, Nat.zero_le _, rfl, IsT.nil _ _ _ _, Below.refl _ _⟩
  case round =>
    obtain ⟨A1, n1, c1, i, rfl, rfl, hi, hn1, hT1, hbel⟩ := hrel
    by_cases hin : i < n
    · obtain ⟨ad, p, rfl, hab, hp, d1, d2, d3⟩ := (HH.out.below hbel).at_ hin
      rw [add_next] at d2
      rw [add_next2] at d3
      obtain ⟨f1, f2, f3, f4⟩ := HH.out.fits p (List.mem_of_getElem? hp)
      have hi6 : i < 6 := by omega
      have HP := Lib.hid hp
      have HT1 := Lib.hid hT1
      have HN1 := Lib.hid hn1
      clear hp hT1 hn1
      obtain ⟨x, hx⟩ : ∃ x, p.1 = x := ⟨_, rfl⟩
      obtain ⟨dd, hdd⟩ : ∃ x, p.2.1 = x := ⟨_, rfl⟩
      obtain ⟨rr, hrr⟩ : ∃ x, p.2.2 = x := ⟨_, rfl⟩
      rw [hx] at d1 f1 f2
      rw [hdd] at d2 f3
      rw [hrr] at d3 f4
      have HX := Lib.hid hx
      have HDD := Lib.hid hdd
      have HRR := Lib.hid hrr
      clear hx hdd hrr
      obtain ⟨X, hX⟩ : ∃ X, x.tmod 41 = X := ⟨_, rfl⟩
      have hXb := tmod41 x
      rw [hX] at hXb
      by_cases hX0 : X = 0
      · have hz : makeZ ps (i + 1) = makeZ ps i := by
          simp only [makeZ, HP.out]
          rw [if_pos (by rw [HX.out, hX]; exact hX0)]
        have HZ := Lib.hid hz
        have hXz : (X == 0) = true := by simpa using hX0
        have hXd : decide (X = 0) = true := decide_eq_true hX0
        clear hz hX0 d2 d3 hXb
        go_wp2_with fail
        exact ⟨⟨A1, n1, c1, i + 1, rfl, by congr 1, hin, by rw [HZ.out]; exact HN1.out, by rw [HZ.out]; exact HT1.out, hbel⟩, by simp [intOf]; omega⟩
      · have hXz : (X == 0) = false := by simpa using hX0
        have hXd : decide (X = 0) = false := decide_eq_false hX0
        have hz : makeZ ps (i + 1) = joinZ (makeZ ps i ++ [partZ p]) := by
          simp only [makeZ, HP.out]
          rw [if_neg (by rw [HX.out, hX]; exact hX0)]
        have HZ := Lib.hid hz
        clear hz
        have hE : ∀ w', Below wr.heap.size wr w' → w'.cell? ⟨(ad.add (i * 3)).block, (ad.add (i * 3)).off + 2, none⟩ = some (.int .u8 (rr : Int)) := by
          intro w' hb'
          obtain ⟨ad', p', e1, _, hp', _, _, g3⟩ := (HH.out.below (below_tr hbel hb')).at_ hin
          cases e1
          rw [HP.out] at hp'
          cases hp'
          rw [add_next2, HRR.out] at g3
          exact g3
        have HE := Lib.hid hE
        clear hE
        have hof := fun w hW => refOf_any X (by omega) (by omega) w hW
        have hD : ∀ w', Below wr.heap.size wr w' → w'.cell? ⟨(ad.add (i * 3)).block, (ad.add (i * 3)).off + 1, none⟩ = some (.int .u8 (dd : Int)) := by
          intro w' hb'
          obtain ⟨ad', p', e1, _, hp', _, g2, _⟩ := (HH.out.below (below_tr hbel hb')).at_ hin
          cases e1
          rw [HP.out] at hp'
          cases hp'
          rw [add_next, HDD.out] at g2
          exact g2
        have HD := Lib.hid hD
        clear hD d2 d3
        have hWr : Wd wr := hW.below hbel
        have hBd : Below wr.heap.size wr wr.drew := (Below.refl _ _).drew
        have hwd0 : Wd wr.drew := hWr.below hBd
        have hBa : Below wr.heap.size wr (wr.alloc (.cells #[.int .i64 1, .int .i64 2, .int .i64 3, .int .i64 4, .int .i64 6, .int .i64 12] 3)).drew := ((Below.refl _ _).alloc (Nat.le_refl _) _).drew
        have hwd0a : Wd (wr.alloc (.cells #[.int .i64 1, .int .i64 2, .int .i64 3, .int .i64 4, .int .i64 6, .int .i64 12] 3)).drew := hWr.below hBa
        have hpl : wr.heap.size < (wr.alloc (.cells #[.int .i64 1, .int .i64 2, .int .i64 3, .int .i64 4, .int .i64 6, .int .i64 12] 3)).drew.heap.size := by simp
        obtain ⟨D, hDn⟩ : ∃ D, denOf dd = D := ⟨_, rfl⟩
        have hDf := den_facts dd
        rw [hDn] at hDf
        have hofD := fun w hW => refOf_any (D : Int) (by omega) (by omega) w hW
        have hmk := fun w hW => refMake_any X (D : Int) (by omega) (DL.mono (DL.of_lt (k := 2) (by omega) (by decide)) (by decide)) (DL.mono (DL.of_lt (k := 2) (by omega) (by decide)) (by decide)) w hW
        obtain ⟨XT, hXT⟩ : ∃ Y, txt X = Y := ⟨_, rfl⟩
        obtain ⟨DT, hDT⟩ : ∃ Y, txt (D : Int) = Y := ⟨_, rfl⟩
        obtain ⟨QT, hQT⟩ : ∃ Y, rtxt (Rat.divInt X (D : Int)) = Y := ⟨_, rfl⟩
        rw [hXT] at hof hmk
        rw [hDT] at hofD hmk
        rw [hQT] at hmk
        have HQT := Lib.hid hQT
        have HXX := Lib.hid hX
        have hst := step_ok ps i hi6 p
        have HOK := Lib.hid hst.2
        have HRL := Lib.hid hst.1
        have hja := fun R hR => join_step (makeZ ps i) p X D R (by rw [HX.out, hX]) (by rw [HDD.out, hDn]) hR
        have HJ0 := Lib.hid hja
        have hqr : RS (Rat.divInt X (D : Int)) := RS.divInt (DL.two (by omega) (by decide)) (DL.two (by omega) (by decide)) (by omega)
        have HQR := Lib.hid hqr
        clear hst hja hqr
        have HDN := Lib.hid hDn
        clear hXT hDT hQT hDf
        have a1 := hof _ hwd0
        have a1a := hof _ hwd0a
        have e2 := HD.out _ hBd
        have e2a := HD.out _ hBa
        have hgd := hBd.size
        have hga := hBa.size
        clear hof hXb
        have hdi : decide ((i : Int) < 6) = true := decide_eq_true (by omega)
        go_upto_region 7 with fail
        clear d1
        go_cut [6] from 26 to 38 (fun s6 wx => s6 = .string QT ∧ Below wr.heap.size wr wx)
        case first =>
          obtain ⟨k, hk⟩ : ∃ k, dd % 6 = k := ⟨_, rfl⟩
          have hk6 : k < 6 := by omega
          have hki : (k : Int) < 6 := by omega
          have ht : (dd : Int).tmod 6 = (k : Int) := by rw [Int.tmod_eq_emod_of_nonneg (by omega)]; omega
          have hDk : D = [1, 2, 3, 4, 6, 12].getD k 1 := by rw [← hDn, ← hk]; rfl
          have hnew := fun W => new_den W k D hk6 hDk
          have hn0 : (wr.alloc (.cells #[.int .i64 1, .int .i64 2, .int .i64 3, .int .i64 4, .int .i64 6, .int .i64 12] 3)).drew.cell? ⟨wr.heap.size, k, none⟩ = some (.int .i64 (D : Int)) := hnew wr
          have HNEW := Lib.hid hnew
          have HBD := Lib.hid hBd
          have HBA := Lib.hid hBa
          clear hDn hX hnew hDk hk hX0 hXz hXd hwd0 hwd0a hBd hBa hgd hga f1 f2 f3 f4 hi6 hab 
          go_region_with (first
            | (with_reducible refine Calls.mono a1 ?_; rintro e w1 ⟨rfl, hb1⟩; have hB1 := below_tr HBD.out hb1; have e3 := HD.out _ hB1; have hB1a := hB1.alloc hB1.size (.cells #[.int .i64 1, .int .i64 2, .int .i64 3, .int .i64 4, .int .i64 6, .int .i64 12] 3); have e3a := HD.out _ hB1a; have e4 := HNEW.out w1; have a2 := hofD _ (hWr.below hB1a); have HB1 := Lib.hid hB1a; clear a1 a1a hB1 hB1a hb1 e2 e2a hn0)
            | (with_reducible refine Calls.mono a1a ?_; rintro e w1 ⟨rfl, hb1⟩; have hB1a := below_tr HBA.out hb1; have e3 := HD.out _ hB1a; have e4 := cell_old hb1 hpl hn0; have a2 := hofD _ (hWr.below hB1a); have HB1 := Lib.hid hB1a; clear a1 a1a hB1a hb1 e2 e2a hn0)
            | (with_reducible refine Calls.mono a2 ?_; rintro e w2 ⟨rfl, hb2⟩; have HB2 := Lib.hid (below_tr HB1.out hb2); have a3 := hmk _ (hWr.below HB2.out); clear a2 hb2 e3 e4)
            | (with_reducible refine Calls.mono a3 ?_; rintro e w3 ⟨rfl, hb3⟩; have HB3 := Lib.hid (below_tr HB2.out hb3); clear a3 hb3))
          all_goals go_simp
          all_goals (
            go_wp2_with fail
            go_meet
            exact ⟨rfl, HB3.out⟩)
        case rest =>
          obtain ⟨rfl, hBz⟩ := hcut
          rename World => wz
          clear a1 a1a e2 e2a hwd0 hwd0a hBd hBa hgd hga hpl hofD hmk hXz hXd
          obtain ⟨m, hm10⟩ : ∃ m, rr % 10 = m := ⟨_, rfl⟩
          have hmk10 : m < 10 := by omega
          have hmi : (m : Int) < 10 := by omega
          have ht1 : (rr : Int).tmod 10 = (m : Int) := by rw [Int.tmod_eq_emod_of_nonneg (by omega)]; omega
          have ht2 : (rr : Int) % 10 = (m : Int) := by omega
          have hrm : radOf rr = radL.getD m 1 := by unfold radOf; rw [hm10]
          obtain ⟨R, hR⟩ : ∃ R, radOf rr = R := ⟨_, rfl⟩
          rw [hR] at hrm
          have hnr := new_rad wz m R hmk10 hrm
          have e5 : (wz.alloc (.cells #[.string ⟨#[49]⟩, .string ⟨#[50]⟩, .string ⟨#[51]⟩, .string ⟨#[56]⟩, .string ⟨#[54]⟩, .string ⟨#[49, 50]⟩, .string ⟨#[49, 48]⟩, .string ⟨#[53, 48]⟩, .string ⟨#[51, 48]⟩, .string ⟨#[49, 48, 48, 57]⟩] 35)).cell? ⟨(ad.add (i * 3)).block, (ad.add (i * 3)).off + 2, none⟩ = some (.int .u8 (rr : Int)) := HE.out _ (hBz.alloc hBz.size _)
          have hBy := hBz.alloc hBz.size (.cells #[.string ⟨#[49]⟩, .string ⟨#[50]⟩, .string ⟨#[51]⟩, .string ⟨#[56]⟩, .string ⟨#[54]⟩, .string ⟨#[49, 50]⟩, .string ⟨#[49, 48]⟩, .string ⟨#[53, 48]⟩, .string ⟨#[51, 48]⟩, .string ⟨#[49, 48, 48, 57]⟩] 35)
          have HR := Lib.hid hR
          clear hR hrm hm10 hmk10
          go_wp2_with fail
          obtain ⟨Wa, hWa⟩ : ∃ W, wz.alloc (.cells #[.string ⟨#[49]⟩, .string ⟨#[50]⟩, .string ⟨#[51]⟩, .string ⟨#[56]⟩, .string ⟨#[54]⟩, .string ⟨#[49, 50]⟩, .string ⟨#[49, 48]⟩, .string ⟨#[53, 48]⟩, .string ⟨#[51, 48]⟩, .string ⟨#[49, 48, 48, 57]⟩] 35) = W := ⟨_, rfl⟩
          have hsz : Wa.heap.size = wz.heap.size + 1 := by rw [← hWa]; simp
          rw [hWa, ← hsz]
          rw [hWa] at hBy
          obtain ⟨hb, q9⟩ := lit_new Wa [(QT, txt (R : Int))] 1 rfl 39 #[.string QT, .string (txt (R : Int))] rfl
          obtain ⟨Wb, hWb⟩ : ∃ W, Wa.alloc (.cells #[.string QT, .string (txt (R : Int))] 39) = W := ⟨_, rfl⟩
          rw [hWb] at hb q9 ⊢
          have hBb := below_tr hBy hb
          have hT1b : IsT Wb Wb.heap.size A1 n1 c1 (tb (toR (makeZ ps i))) := by
            exact HT1.out.to hBb (Nat.le_refl _)
          clear hnr e5 hBy hsz hWa hWb hb
          have HJA := Lib.hid (HJ0.out R (by rw [HRR.out]; exact HR.out))
          have hjn := refJoin_any A1 _ n1 c1 1 1 (toR (makeZ ps i)) [(Rat.divInt X (D : Int), R)] 1 Wb (hWr.below hBb) hT1b (by
            show IsT Wb Wb.heap.size _ 1 1 [(rtxt (Rat.divInt X (D : Int)), txt (R : Int))]
            rw [HQT.out]; exact q9) (RS.two (by decide) (by decide)) (by
            intro r hr
            rw [List.mem_singleton] at hr
            rw [hr]
            exact HQR.out) (by rw [HJA.out]; exact HOK.out)
          have hje : joinL (toR (makeZ ps i)) [(Rat.divInt X (D : Int), R)] 1 = toR (makeZ ps (i + 1)) := by
            unfold joinL
            rw [HJA.out, joinZ_eq HRL.out, ← HZ.out]
          rw [hje, kr1] at hjn
          clear hje q9 hT1b
          with_reducible refine Calls.mono hjn ?_
          rintro e wn ⟨⟨A5, n5, c5, rfl, hn5, hT5⟩, hb9⟩
          have hBn := below_tr hbel (below_tr hBb hb9)
          rw [toR_len] at hn5
          have HN5 := Lib.hid hn5
          have HT5 := Lib.hid hT5
          clear hn5 hT5 hjn hb9
          go_wp2_with fail
          exact ⟨⟨A5, n5, c5, i + 1, rfl, by congr 1, hin, HN5.out, HT5.out, hBn⟩, by simp [intOf]; omega⟩
    · have hie : i = n := by omega
      subst hie
      have hl6 : ¬ (i : Int) < 0 := by omega
      have hTm := lawmade_any A1 n1 c1 _ wr hT1 (by rw [hn1]; have := (makeZ_ok ps i hm).len; omega)
      have HN1 := Lib.hid hn1
      clear hT1 hn1
      go_wp2_with fail
      with_reducible refine Calls.mono hTm ?_
      rintro e wn ⟨⟨A5, c5, rfl, hT5⟩, hb9⟩
      go_wp2_with fail
      go_ret
      exact ⟨⟨A5, n1, c5, rfl, HN1.out, hT5⟩, below_tr hbel hb9⟩
end Go.Proofs.YtgfgpepdkffhbaaGreatDoor.Kl
