/- surd.Check of right surds: OK. surd: enclose. surd: Rational, sign, Sign, floor. surd: Sign, floor. surd: Bounds. -/
import Derived.Test.YtgfgpepdkffhbaaGreatDoorSurdA
namespace Go.Proofs.YtgfgpepdkffhbaaGreatDoor.Kl
open Go.RowKit Go.Shelf
set_option linter.unusedVariables false
set_option linter.unusedSimpArgs false

theorem IsT.take {w : World} {B n c : Nat} {A : Option Addr} {ts : List (ByteArray × ByteArray)} (h : IsT w B A n c ts) {k : Nat} (hk : k ≤ n) : IsT w B A k c (ts.take k) := by
  refine ⟨by rw [List.length_take, h.1]; omega, by have := h.2.1; omega, by rw [tsv_length, List.length_take, h.1]; omega, fun h0 => ?_⟩
  obtain ⟨ad, e, hb, hc⟩ := h.2.2.2 (by omega)
  refine ⟨ad, e, hb, fun j u hu => hc j u ?_⟩
  have e2 : tsv ts = tsv (ts.take k) ++ tsv (ts.drop k) := by
    unfold tsv
    rw [← List.flatMap_append, List.take_append_drop]
  rw [e2, List.getElem?_append_left (List.getElem?_eq_some_iff.1 hu).1]
  exact hu

/-- n is a square, as the program finds it. -/
def Sq (n : Nat) : Prop := isqrt n * isqrt n = n
instance (n : Nat) : Decidable (Sq n) := by unfold Sq; exact inferInstance

/-- terms: a factor and a radicand. -/
def tb (l : List (Rat × Nat)) : List (ByteArray × ByteArray) := l.map fun p => (rtxt p.1, txt (p.2 : Int))
theorem tb_length (l : List (Rat × Nat)) : (tb l).length = l.length := by simp [tb]
theorem tb_get {l : List (Rat × Nat)} {k : Nat} {t : ByteArray × ByteArray} (h : (tb l)[k]? = some t) : ∃ p, l[k]? = some p ∧ t = (rtxt p.1, txt (p.2 : Int)) := by
  simp only [tb, List.getElem?_map, Option.map_eq_some_iff] at h
  obtain ⟨p, h1, h2⟩ := h
  exact ⟨p, h1, h2.symm⟩

def SoundT (p : Rat × Nat) : Prop := RS p.1 ∧ p.1.num ≠ 0 ∧ DL (p.2 : Int) 200 ∧ 0 < p.2 ∧ (Sq p.2 → p.2 = 1)
def Sound (l : List (Rat × Nat)) : Prop := (∀ p ∈ l, SoundT p) ∧ ∀ (i j : Nat) (p q : Rat × Nat), i < j → l[i]? = some p → l[j]? = some q → p.2 < q.2 ∧ ¬ Sq (p.2 * q.2)

theorem check1_any (f : ByteArray) (a b : Nat) (ha : DL (a : Int) 200) (hb : DL (b : Int) 200) (hn : ¬ Sq (a * b)) (g : Nat) (w : World) (hW : Wd w) (hg : w.cell? ⟨g, 1, none⟩ = some (.string (txt (b : Int)))) (hg2 : g < w.heap.size) :
    Calls Tryz.prog 84 #[.agg #[.string f, .string (txt (a : Int))], .pointer (some ⟨g, 0, none⟩)] w fun e w' => e = .returned (.bool false) ∧ Below w.heap.size w w' := by
  obtain ⟨O, hO⟩ : ∃ O, Obj.cells #[.string f, .string (txt (a : Int))] 45 = O := ⟨_, rfl⟩
  have hal : Below w.heap.size w (w.alloc O) := (Below.refl _ _).alloc (Nat.le_refl _) _
  have k0 := heap_alloc_new w O
  have hW1 := hW.below hal
  have hg' := (hal.cell (show (⟨g, 1, none⟩ : Addr).block < _ from hg2)).trans hg
  subst hO
  obtain ⟨c0, c1⟩ := cell2 k0
  have hc := salike_any a b (ha.mono (by decide)) (hb.mono (by decide)) _ hW1
  rw [show decide (isqrt (a * b) * isqrt (a * b) = a * b) = false from decide_eq_false hn] at hc
  go_enter Tryz.func84, Tryz.ntmps84
  go_wp2_with (with_reducible refine Calls.mono hc ?_; rintro e w2 ⟨rfl, hb2⟩)
  go_ret
  exact ⟨rfl, hal.trans (hb2.mono hal.size)⟩

set_option maxRecDepth 100000 in
theorem index1_any (A : Option Addr) (n c : Nat) (l : List (Rat × Nat)) (b : Nat) (hb0 : DL (b : Int) 200) (hl : ∀ p ∈ l, DL (p.2 : Int) 200 ∧ ¬ Sq (p.2 * b)) (g : Nat) (w : World) (hW : Wd w) (hg : w.cell? ⟨g, 1, none⟩ = some (.string (txt (b : Int)))) (hg2 : g < w.heap.size) (h : IsT w w.heap.size A n c (tb l)) (hm : n ≤ 1000000) :
    Calls Tryz.prog 113 #[.slice A n c, .func (.func 84) #[] #[.pointer (some ⟨g, 0, none⟩)]] w fun e w' => e = .returned (.int .i64 (-1)) ∧ Below w.heap.size w w' := by
  have HT := Lib.hid hl; clear hl
  go_enter Tryz.func113, Tryz.ntmps113
  go_wp2_with fail
  go_loopw [8] (fun v wr => ∃ k : Nat, v = .int .i64 (k : Int) ∧ k ≤ n ∧ Below w.heap.size w wr) (fun v _ => n - (intOf v).toNat)
  case atStart => exact ⟨0, rfl, Nat.zero_le _, Below.refl _ _⟩
  case round =>
    obtain ⟨k, rfl, hk, hbel⟩ := hrel
    by_cases hkn : k < n
    · obtain ⟨ad, t, rfl, hb, htk, hc1, hc2⟩ := (h.below hbel).at_ hkn
      obtain ⟨p, hp, rfl⟩ := tb_get htk
      have hcc := HT.out p (List.mem_of_getElem? hp)
      have hg' := (hbel.cell (show (⟨g, 1, none⟩ : Addr).block < _ from hg2)).trans hg
      have hcl := check1_any (rtxt p.1) p.2 b hcc.1 hb0 hcc.2 g wr (hW.below hbel) hg' (Nat.lt_of_lt_of_le hg2 hbel.size)
      rw [add_next] at hc2
      clear htk hp hcc
      go_wp2_with fail
      with_reducible refine Calls.mono hcl ?_
      rintro e w2 ⟨rfl, hb2⟩
      have hB2 := hbel.trans (hb2.mono hbel.size)
      go_wp2_with fail
      exact ⟨⟨k + 1, by congr 1, hkn, hB2⟩, by simp [intOf]; omega⟩
    · go_wp2_with fail
      go_ret
      exact ⟨rfl, hbel⟩

theorem contains1_any (A : Option Addr) (n c : Nat) (l : List (Rat × Nat)) (b : Nat) (hb0 : DL (b : Int) 200) (hl : ∀ p ∈ l, DL (p.2 : Int) 200 ∧ ¬ Sq (p.2 * b)) (g : Nat) (w : World) (hW : Wd w) (hg : w.cell? ⟨g, 1, none⟩ = some (.string (txt (b : Int)))) (hg2 : g < w.heap.size) (h : IsT w w.heap.size A n c (tb l)) (hm : n ≤ 1000000) :
    Calls Tryz.prog 72 #[.slice A n c, .func (.func 84) #[] #[.pointer (some ⟨g, 0, none⟩)]] w fun e w' => e = .returned (.bool false) ∧ Below w.heap.size w w' := by
  have hi := index1_any A n c l b hb0 hl g w hW hg hg2 h hm
  clear hl
  go_enter Tryz.func72, Tryz.ntmps72
  go_wp2_with fail
  with_reducible refine Calls.mono hi ?_
  rintro e w1 ⟨rfl, hb1⟩
  go_wp2_with fail
  go_ret
  exact ⟨rfl, hb1⟩

set_option maxRecDepth 100000 in
theorem scheck_any (A : Option Addr) (n c : Nat) (l : List (Rat × Nat)) (hl : Sound l) (w : World) (hW : Wd w) (h : IsT w w.heap.size A n c (tb l)) (hm : n ≤ 40) :
    Calls Tryz.prog 42 #[.slice A n c] w fun e w' => e = .returned (.int .i64 0) ∧ Below w.heap.size w w' := by
  have HS := Lib.hid hl; clear hl
  have hmm : ¬ 40 < (n : Int) := by omega
  go_enter Tryz.func42, Tryz.ntmps42
  go_wp2_with fail
  go_loopw [12] (fun v wr => ∃ k : Nat, v = .int .i64 (k : Int) ∧ k ≤ n ∧ Below w.heap.size w wr) (fun v _ => n - (intOf v).toNat)
  case atStart => exact ⟨0, rfl, Nat.zero_le _, Below.refl _ _⟩
  case round =>
    obtain ⟨k, rfl, hk, hbel⟩ := hrel
    by_cases hkn : k < n
    · obtain ⟨ad, t, rfl, hb, htk, hc1, hc2⟩ := (h.below hbel).at_ hkn
      obtain ⟨p, hp, rfl⟩ := tb_get htk
      have hst := HS.out.1 p (List.mem_of_getElem? hp)
      rw [add_next] at hc2
      go_wp2_with fail
      have hal : Below w.heap.size w (wr.alloc (.cells #[.string (rtxt p.1), .string (txt (p.2 : Int))] 45)) := hbel.alloc hbel.size _
      have k0 := heap_alloc_new wr (.cells #[.string (rtxt p.1), .string (txt (p.2 : Int))] 45)
      have hl0 := lt_of_block' k0
      have hgw : w.heap.size ≤ wr.heap.size := hbel.size
      have hc := checkR_right p.1 hst.1 _ (hW.below hal)
      with_reducible refine Calls.mono hc ?_
      rintro e w1 ⟨rfl, hb1⟩
      have k1 := (hb1.block _ hl0).trans k0
      have hB1 := hal.trans (hb1.mono hal.size)
      obtain ⟨c10, c11⟩ := cell2 k1
      have hz := rtxt_is_zero p.1
      rw [decide_eq_false hst.2.1] at hz
      have hcc := checkI_right (p.2 : Int) hst.2.2.1 w1
      go_wp2_with fail
      with_reducible refine Calls.mono hcc ?_
      rintro e w2 ⟨rfl, hb2⟩
      have hl1 := lt_of_block' k1
      have k2 := (hb2.block _ hl1).trans k1
      have hB2 := hB1.trans (hb2.mono hB1.size)
      obtain ⟨c20, c21⟩ := cell2 k2
      have hcs := sign_any (p.2 : Int) w2
      have hsg : (p.2 : Int).sign = 1 := Int.sign_eq_one_of_pos (by have := hst.2.2.2.1; omega)
      rw [hsg] at hcs
      go_wp2_with (with_reducible refine Calls.mono hcs ?_; rintro e w2' ⟨rfl, hw2⟩; replace hw2 := hw2.symm; subst hw2)
      have hl2 := lt_of_block' k2
      have hcr := sroot_any p.2 (hst.2.2.1.mono (by decide)) w2 (hW.below hB2)
      obtain ⟨S3, hS3⟩ : ∃ S, txt ((isqrt p.2 : Nat) : Int) = S := ⟨_, rfl⟩
      rw [hS3] at hcr
      have hin : ∀ j (p' : Rat × Nat), j < k → l[j]? = some p' → p'.2 < p.2 ∧ ¬ Sq (p'.2 * p.2) := fun j p' hj hp' => HS.out.2 j k p' p hj hp' hp
      have HIN := Lib.hid hin
      have HST := Lib.hid hst
      have HP := Lib.hid hp
      clear hS3 hin hp hsg hcs hcc hc hz htk
      have hpos := hst.2.2.2.1
      by_cases hsq : Sq p.2
      · have hone := hst.2.2.2.2 hsq
        have hbe : ((txt (p.2 : Int)).toList == [49]) = true := by
          rw [show (p.2 : Int) = 1 by omega, ← txt_one', ByteArray.toList_eq]; rfl
        rw [show decide (isqrt p.2 * isqrt p.2 = p.2) = true from decide_eq_true hsq] at hcr
        clear hst hsq hone
        go_wp2_with (with_reducible refine Calls.mono hcr ?_; rintro e w3 ⟨rfl, hb3⟩; have k3 := (hb3.block _ hl2).trans k2; have hB3 := hB2.trans (hb3.mono hB2.size); have e0 := cell2 k3; have c30 := e0.1; have c31 := e0.2)
        have hl3 := lt_of_block' k3
        have hnc : k ≤ c := by have := h.2.1; omega
        have hcn : ∀ m, Calls Tryz.prog 72 #[.slice (some ad) k c, .func (.func 84) #[] #[.pointer (some ⟨wr.heap.size, 0, none⟩)]] (w3.drewN m) fun e w' => e = .returned (.bool false) ∧ Below w3.heap.size (w3.drewN m) w' := fun m => by
          refine contains1_any (some ad) k c (l.take k) p.2 HST.out.2.2.1 ?_ _ (w3.drewN m) (hW.below (below_drewN hB3 m)) c31 hl3 ?_ (by omega)
          · intro p' hp'
            obtain ⟨j, hj, e⟩ := List.getElem_of_mem hp'
            have hjk : j < k := by rw [List.length_take] at hj; omega
            have hg : l[j]? = some p' := by
              rw [List.getElem_take] at e
              rw [List.getElem?_eq_some_iff]; exact ⟨by rw [List.length_take] at hj; omega, e⟩
            exact ⟨(HS.out.1 p' (List.mem_of_getElem? hg)).2.2.1, (HIN.out j p' hjk hg).2⟩
          · have := (h.take (Nat.le_of_lt hkn)).to (below_drewN hB3 m) (Nat.le_refl _)
            rw [show (tb l).take k = tb (l.take k) by simp [tb, List.map_take]] at this
            exact this
        have hB3d : Below w.heap.size w w3.drew := hB3.drew
        have k3d : w3.drew.heap[wr.heap.size]? = some (Obj.cells #[.string (rtxt p.1), .string (txt (p.2 : Int))] 45) := k3
        have c40 := (cell2 k3d).1
        have c41 := (cell2 k3d).2
        rcases Nat.eq_zero_or_pos k with hk0 | hk0
        · have hk1 : k + 1 ≤ n := hkn
          subst hk0
          rw [show ((0 : Nat) : Int) = 0 from rfl]
          go_quiet (fail)
          all_goals (
            have hB4 : Below w.heap.size w (w3.drewN nq) := below_drewN hB3 nq
            have hcm := hcn nq
            go_wp2_with (with_reducible refine Calls.mono hcm ?_; rintro e w5 ⟨rfl, hb5⟩; have hB5 := hB4.trans (hb5.mono (show w.heap.size ≤ w3.heap.size from hB3.size))))
          exact ⟨⟨_, by congr 1, by assumption, hB5⟩, by simp [intOf]; omega⟩
        · have hk1 : k + 1 ≤ n := hkn
          have hgt : decide ((0 : Int) < (k : Int)) = true := decide_eq_true (by omega)
          obtain ⟨j, hj⟩ : ∃ j, j + 1 = k := ⟨k - 1, by omega⟩
          have hjn : j < n := by omega
          have hwr : IntKind.i64.wrap ((k : Int) - 1) = (j : Int) := by rw [IntWalk.i64_in _ ⟨by omega, by omega⟩]; omega
          obtain ⟨ad', t', hA, hb', htk', hd1, hd2⟩ := (h.below hB3).at_ hjn
          cases hA
          obtain ⟨p', hp', rfl⟩ := tb_get htk'
          rw [add_next] at hd2
          have hpp := HIN.out j p' (by omega) hp'
          have hcl1 := (HS.out.1 p' (List.mem_of_getElem? hp')).2.2.1.itoa
          have hcl2 := HST.out.2.2.1.itoa
          have hcp := fun w => compare_any (p'.2 : Int) (p.2 : Int) w (by rw [Int.natAbs_natCast]; omega) (by rw [Int.natAbs_natCast]; omega)
          have hci : cmpI (p'.2 : Int) (p.2 : Int) = -1 := by unfold cmpI; rw [if_pos (by omega)]
          rw [hci] at hcp
          have hcq : ∀ w, Calls Tryz.prog 64 #[.string (txt (p'.2 : Int)), .string (txt (p.2 : Int))] w fun e w' => e = .returned (.int .i64 (-1)) ∧ ∃ n, w' = w.drewN n := fun w => (hcp w).mono (by rintro e w4 ⟨rfl, rfl⟩; exact ⟨rfl, 0, rfl⟩)
          clear hpp hcl1 hcl2 hci htk' hp' hcp
          go_quiet (exact Calls.quiet_of (hcq _))
          all_goals (
            have hB4 : Below w.heap.size w (w3.drewN nq) := below_drewN hB3 nq
            have hcm := hcn nq
            go_wp2_with (with_reducible refine Calls.mono hcm ?_; rintro e w5 ⟨rfl, hb5⟩; have hB5 := hB4.trans (hb5.mono (show w.heap.size ≤ w3.heap.size from hB3.size))))
          exact ⟨⟨_, by congr 1, by assumption, hB5⟩, by simp [intOf]; omega⟩
      · rw [show decide (isqrt p.2 * isqrt p.2 = p.2) = false from decide_eq_false hsq] at hcr
        clear hst hsq
        go_wp2_with (with_reducible refine Calls.mono hcr ?_; rintro e w3 ⟨rfl, hb3⟩; have k3 := (hb3.block _ hl2).trans k2; have hB3 := hB2.trans (hb3.mono hB2.size); have e0 := cell2 k3; have c30 := e0.1; have c31 := e0.2)
        have hl3 := lt_of_block' k3
        have hnc : k ≤ c := by have := h.2.1; omega
        have hcn : ∀ m, Calls Tryz.prog 72 #[.slice (some ad) k c, .func (.func 84) #[] #[.pointer (some ⟨wr.heap.size, 0, none⟩)]] (w3.drewN m) fun e w' => e = .returned (.bool false) ∧ Below w3.heap.size (w3.drewN m) w' := fun m => by
          refine contains1_any (some ad) k c (l.take k) p.2 HST.out.2.2.1 ?_ _ (w3.drewN m) (hW.below (below_drewN hB3 m)) c31 hl3 ?_ (by omega)
          · intro p' hp'
            obtain ⟨j, hj, e⟩ := List.getElem_of_mem hp'
            have hjk : j < k := by rw [List.length_take] at hj; omega
            have hg : l[j]? = some p' := by
              rw [List.getElem_take] at e
              rw [List.getElem?_eq_some_iff]; exact ⟨by rw [List.length_take] at hj; omega, e⟩
            exact ⟨(HS.out.1 p' (List.mem_of_getElem? hg)).2.2.1, (HIN.out j p' hjk hg).2⟩
          · have := (h.take (Nat.le_of_lt hkn)).to (below_drewN hB3 m) (Nat.le_refl _)
            rw [show (tb l).take k = tb (l.take k) by simp [tb, List.map_take]] at this
            exact this
        have hB3d : Below w.heap.size w w3.drew := hB3.drew
        have k3d : w3.drew.heap[wr.heap.size]? = some (Obj.cells #[.string (rtxt p.1), .string (txt (p.2 : Int))] 45) := k3
        have c40 := (cell2 k3d).1
        have c41 := (cell2 k3d).2
        rcases Nat.eq_zero_or_pos k with hk0 | hk0
        · have hk1 : k + 1 ≤ n := hkn
          subst hk0
          rw [show ((0 : Nat) : Int) = 0 from rfl]
          go_quiet (fail)
          all_goals (
            have hB4 : Below w.heap.size w (w3.drewN nq) := below_drewN hB3 nq
            have hcm := hcn nq
            go_wp2_with (with_reducible refine Calls.mono hcm ?_; rintro e w5 ⟨rfl, hb5⟩; have hB5 := hB4.trans (hb5.mono (show w.heap.size ≤ w3.heap.size from hB3.size))))
          exact ⟨⟨_, by congr 1, by assumption, hB5⟩, by simp [intOf]; omega⟩
        · have hk1 : k + 1 ≤ n := hkn
          have hgt : decide ((0 : Int) < (k : Int)) = true := decide_eq_true (by omega)
          obtain ⟨j, hj⟩ : ∃ j, j + 1 = k := ⟨k - 1, by omega⟩
          have hjn : j < n := by omega
          have hwr : IntKind.i64.wrap ((k : Int) - 1) = (j : Int) := by rw [IntWalk.i64_in _ ⟨by omega, by omega⟩]; omega
          obtain ⟨ad', t', hA, hb', htk', hd1, hd2⟩ := (h.below hB3).at_ hjn
          cases hA
          obtain ⟨p', hp', rfl⟩ := tb_get htk'
          rw [add_next] at hd2
          have hpp := HIN.out j p' (by omega) hp'
          have hcl1 := (HS.out.1 p' (List.mem_of_getElem? hp')).2.2.1.itoa
          have hcl2 := HST.out.2.2.1.itoa
          have hcp := fun w => compare_any (p'.2 : Int) (p.2 : Int) w (by rw [Int.natAbs_natCast]; omega) (by rw [Int.natAbs_natCast]; omega)
          have hci : cmpI (p'.2 : Int) (p.2 : Int) = -1 := by unfold cmpI; rw [if_pos (by omega)]
          rw [hci] at hcp
          have hcq : ∀ w, Calls Tryz.prog 64 #[.string (txt (p'.2 : Int)), .string (txt (p.2 : Int))] w fun e w' => e = .returned (.int .i64 (-1)) ∧ ∃ n, w' = w.drewN n := fun w => (hcp w).mono (by rintro e w4 ⟨rfl, rfl⟩; exact ⟨rfl, 0, rfl⟩)
          clear hpp hcl1 hcl2 hci htk' hp' hcp
          go_quiet (exact Calls.quiet_of (hcq _))
          all_goals (
            have hB4 : Below w.heap.size w (w3.drewN nq) := below_drewN hB3 nq
            have hcm := hcn nq
            go_wp2_with (with_reducible refine Calls.mono hcm ?_; rintro e w5 ⟨rfl, hb5⟩; have hB5 := hB4.trans (hb5.mono (show w.heap.size ≤ w3.heap.size from hB3.size))))
          exact ⟨⟨_, by congr 1, by assumption, hB5⟩, by simp [intOf]; omega⟩
    · go_wp2_with fail
      go_ret
      exact ⟨rfl, hbel⟩
end Go.Proofs.YtgfgpepdkffhbaaGreatDoor.Kl
namespace Go.Proofs.YtgfgpepdkffhbaaGreatDoor.Kl
open Go.RowKit Go.Shelf
set_option linter.unusedVariables false
set_option linter.unusedSimpArgs false

/-- the common denominator. -/
def denF (d : Int) (p : Rat × Nat) : Int := d * ((p.1.den : Int) / ((Nat.gcd d.natAbs p.1.den : Nat) : Int))
def denL (l : List (Rat × Nat)) : Int := l.foldl denF 1
theorem foldl_take {α β : Type} (f : β → α → β) (b : β) (l : List α) {k : Nat} {x : α} (h : l[k]? = some x) : (l.take (k + 1)).foldl f b = f ((l.take k).foldl f b) x := by
  rw [List.take_add_one, h, List.foldl_append]; rfl
theorem denL_take (l : List (Rat × Nat)) {k : Nat} {p : Rat × Nat} (h : l[k]? = some p) : denL (l.take (k + 1)) = denF (denL (l.take k)) p := foldl_take _ _ _ h

theorem denF_ok {d : Int} {K : Nat} {p : Rat × Nat} (hd : 0 < d) (hK : DL d K) (hp : RS p.1) : 0 < denF d p ∧ DL (denF d p) (K + 200) := by
  have hpos : 0 < Nat.gcd d.natAbs p.1.den := Nat.gcd_pos_of_pos_right _ p.1.den_pos
  have hle : Nat.gcd d.natAbs p.1.den ≤ p.1.den := Nat.gcd_le_right _ p.1.den_pos
  have hq : 0 < p.1.den / Nat.gcd d.natAbs p.1.den := Nat.div_pos hle hpos
  unfold denF
  rw [← Int.natCast_ediv]
  refine ⟨Int.mul_pos hd (by omega), hK.mul ?_ hK.one_le⟩
  exact hp.den.le (Nat.div_le_self _ _) (by decide)

theorem denL_ok (l : List (Rat × Nat)) (hl : ∀ p ∈ l, RS p.1) (k : Nat) : 0 < denL (l.take k) ∧ DL (denL (l.take k)) (200 * k + 1) := by
  induction k with
  | zero => exact ⟨by show (0 : Int) < 1; decide, by show (Lib.decDigits 1).length ≤ 1; rw [dec_small (by decide)]; decide⟩
  | succ k ih =>
    by_cases h : k < l.length
    · rw [denL_take l (List.getElem?_eq_getElem h)]
      have := denF_ok ih.1 ih.2 (hl _ (List.getElem_mem h))
      exact ⟨this.1, this.2.mono (by omega)⟩
    · rw [List.take_of_length_le (by omega)]
      rw [List.take_of_length_le (by omega)] at ih
      exact ⟨ih.1, ih.2.mono (by omega)⟩

/-- one term's part of the bounds. -/
def upA (S : Nat) (n : Nat) : Nat := isqrt (n * S)
def upB (S : Nat) (n : Nat) : Nat := if isqrt (n * S) * isqrt (n * S) = n * S then isqrt (n * S) else isqrt (n * S) + 1
def encK (D : Int) (q : Rat) : Int := D / (q.den : Int) * q.num
def encLow (D : Int) (S : Nat) (p : Rat × Nat) : Int := encK D p.1 * ((if encK D p.1 < 0 then upB S p.2 else upA S p.2 : Nat) : Int)
def encHigh (D : Int) (S : Nat) (p : Rat × Nat) : Int := encK D p.1 * ((if encK D p.1 < 0 then upA S p.2 else upB S p.2 : Nat) : Int)
def lowL (D : Int) (S : Nat) (l : List (Rat × Nat)) : Int := l.foldl (fun a p => a + encLow D S p) 0
def highL (D : Int) (S : Nat) (l : List (Rat × Nat)) : Int := l.foldl (fun a p => a + encHigh D S p) 0

theorem upA_le (S n : Nat) : upA S n ≤ n * S := isqrt_le_self _
theorem upB_le (S n : Nat) : upB S n ≤ n * S + 1 := by
  have := isqrt_le_self (n * S)
  unfold upB; split <;> omega

theorem upB_dl {S n k : Nat} (hn : DL (n : Int) 200) (hS : DL (S : Int) k) (hk : 1 ≤ k) : DL (upA S n : Int) (201 + k) ∧ DL (upB S n : Int) (201 + k) := by
  have h1 : DL ((n * S : Nat) : Int) (200 + k) := by rw [Int.natCast_mul]; exact hn.mul hS (by decide)
  have h2 : DL ((n * S + 1 : Nat) : Int) (201 + k) := by
    rw [Int.natCast_add]
    have : DL ((1 : Nat) : Int) (200 + k) := DL.of_lt (by show 1 < 10 ^ (200 + k); exact Nat.one_lt_pow (by omega) (by decide)) (by omega)
    have h3 := h1.add this
    rw [show 200 + k + 1 = 201 + k by omega] at h3
    exact h3
  exact ⟨h2.le (Nat.le_succ_of_le (upA_le S n)) (by omega), h2.le (upB_le S n) (by omega)⟩
theorem encK_dl {D : Int} {q : Rat} {K : Nat} (hD : DL D K) (hq : RS q) : DL (encK D q) (K + 200) := hD.ediv.mul hq.num hD.one_le

theorem dl_sum {x y : Int} {K M k : Nat} (hx : DL x (K + M + k)) (hy : DL y (K + M)) : DL (x + y) (K + M + (k + 1)) := by
  have := hx.add (hy.mono (show K + M ≤ K + M + k by omega))
  exact this.mono (by omega)

theorem low_dl {D : Int} {S : Nat} {K M : Nat} (l : List (Rat × Nat)) (hl : ∀ p ∈ l, DL (encLow D S p) (K + M) ∧ DL (encHigh D S p) (K + M)) (h1 : 1 ≤ K + M) (k : Nat) : DL (lowL D S (l.take k)) (K + M + k) ∧ DL (highL D S (l.take k)) (K + M + k) := by
  induction k with
  | zero =>
    have : DL (0 : Int) (K + M + 0) := DL.of_lt (by show 0 < 10 ^ (K + M + 0); exact Nat.pow_pos (by decide)) (by omega)
    exact ⟨this, this⟩
  | succ k ih =>
    by_cases h : k < l.length
    · have hg := List.getElem?_eq_getElem h
      have hh := hl _ (List.getElem_mem h)
      unfold lowL highL
      rw [foldl_take _ _ _ hg, foldl_take _ _ _ hg]
      exact ⟨dl_sum ih.1 hh.1, dl_sum ih.2 hh.2⟩
    · rw [List.take_of_length_le (by omega)]
      rw [List.take_of_length_le (by omega)] at ih
      exact ⟨ih.1.mono (by omega), ih.2.mono (by omega)⟩

theorem rtl_rs {q : Rat} (hq : RS q) : (rtl q).length ≤ 500 := by
  have := rtl_len q
  have h3 := dig_len hq.1
  have h4 : (Lib.itoa (q.den : Int)).length ≤ 200 := by rw [itoa_nat]; exact hq.2
  omega

def Terms (l : List (Rat × Nat)) : Prop := ∀ p ∈ l, RS p.1 ∧ DL (p.2 : Int) 200
theorem Sound.terms {l : List (Rat × Nat)} (h : Sound l) : Terms l := fun p hp => ⟨(h.1 p hp).1, (h.1 p hp).2.2.1⟩

theorem pow4_dl (n : Nat) : DL ((4 ^ n : Nat) : Int) (n + 1) := by
  apply DL.of_lt _ (by omega)
  rw [Int.natAbs_natCast]
  exact Nat.lt_of_lt_of_le (Nat.pow_lt_pow_left (a := 4) (b := 10) (n := n + 1) (by decide) (by omega) |> Nat.lt_of_le_of_lt (Nat.pow_le_pow_right (by decide) (Nat.le_succ n))) (Nat.le_refl _)

set_option maxRecDepth 100000 in
set_option maxHeartbeats 1000000 in
theorem enclose_any (A : Option Addr) (n c : Nat) (l : List (Rat × Nat)) (hl : Terms l) (bits : Nat) (hbits : bits ≤ 5000) (w : World) (hW : Wd w) (h : IsT w w.heap.size A n c (tb l)) (hm : n ≤ 40) :
    Calls Tryz.prog 87 #[.slice A n c, .int .i64 (bits : Int)] w fun e w' => e = .returned (.tuple #[.string (txt (lowL (denL l) (4 ^ bits) l)), .string (txt (highL (denL l) (4 ^ bits) l)), .string (txt (denL l))]) ∧ Below w.heap.size w w' := by
  have htr : ∀ a b c : World, Below a.heap.size a b → Below b.heap.size b c → Below a.heap.size a c := fun a b c h1 h2 => h1.trans (h2.mono h1.size)
  have hln : l.length = n := by have := h.len; rw [tb_length] at this; exact this
  have HS := Lib.hid hl
  have HLN := Lib.hid hln
  have HD := Lib.hid (denL_ok l (fun p hp => (hl p hp).1))
  clear hl hln
  obtain ⟨RL, hRL⟩ : ∃ R, lowL (denL l) (4 ^ bits) l = R := ⟨_, rfl⟩
  obtain ⟨RH, hRH⟩ : ∃ R, highL (denL l) (4 ^ bits) l = R := ⟨_, rfl⟩
  obtain ⟨RD, hRD⟩ : ∃ R, denL l = R := ⟨_, rfl⟩
  rw [hRL, hRH, hRD]
  have HRL := Lib.hid hRL
  have HRH := Lib.hid hRH
  have HRD := Lib.hid hRD
  clear hRL hRH hRD
  have h0 : (txt 1) = (⟨#[49]⟩ : ByteArray) := txt_one'.symm
  go_enter Tryz.func87, Tryz.ntmps87
  go_wp2_with fail
  go_loopw [6, 26] (fun dv iv wr => ∃ k : Nat, iv = .int .i64 (k : Int) ∧ k ≤ n ∧ dv = .string (txt (denL (l.take k))) ∧ Below w.heap.size w wr) (fun _ iv _ => n - (intOf iv).toNat)
  case atStart => exact ⟨0, rfl, Nat.zero_le _, by rw [← h0]; rfl, Below.refl _ _⟩
  case round =>
    obtain ⟨k, rfl, hk, rfl, hbel⟩ := hrel
    by_cases hkn : k < n
    · obtain ⟨ad, t, rfl, hb, htk, hc1, hc2⟩ := (h.below hbel).at_ hkn
      obtain ⟨p, hp, rfl⟩ := tb_get htk
      have hst := HS.out p (List.mem_of_getElem? hp)
      have hsd := HD.out k
      have hnext := denL_take l hp
      rw [add_next] at hc2
      obtain ⟨d, hd⟩ : ∃ d, denL (l.take k) = d := ⟨_, rfl⟩
      rw [hd] at hsd hnext
      have HN := Lib.hid hnext
      have hal : Below w.heap.size w (wr.alloc (.cells #[.string (rtxt p.1), .string (txt (p.2 : Int))] 45)) := hbel.alloc hbel.size _
      have hpa := parts_any p.1 (by have := rtl_rs hst.1; omega) _ (hW.below hal)
      have hdi := hsd.2.itoa
      have hqi := hst.1.den.itoa
      have hgp : 0 < Nat.gcd d.natAbs p.1.den := Nat.gcd_pos_of_pos_right _ p.1.den_pos
      have hgc := fun w hW => gcd_any d (p.1.den : Int) w hW (by omega) (by omega)
      rw [Int.natAbs_natCast] at hgc
      have hgl : DL ((Nat.gcd d.natAbs p.1.den : Nat) : Int) 200 := hst.1.den.le (Nat.gcd_le_right _ p.1.den_pos) (by decide)
      have hgi := hgl.itoa
      obtain ⟨g, hg⟩ : ∃ g, Nat.gcd d.natAbs p.1.den = g := ⟨_, rfl⟩
      have hdf : denF d p = d * ((p.1.den : Int) / (g : Int)) := by unfold denF; rw [hg]
      rw [hg] at hgp hgc hgl hgi
      have hdm := fun w hW => divmod_any (p.1.den : Int) (g : Int) (by omega) w hW (by omega) (by omega)
      have hql : DL ((p.1.den : Int) / (g : Int)) 200 := hst.1.den.ediv
      have hqli := hql.itoa
      have hmu := fun w hW => mul_any d ((p.1.den : Int) / (g : Int)) w hW (by omega) (by omega)
      rw [← hdf] at hmu
      rw [hdf] at hnext
      obtain ⟨q1, hq1⟩ : ∃ q, (p.1.den : Int) / (g : Int) = q := ⟨_, rfl⟩
      obtain ⟨r1, hr1⟩ : ∃ r, (p.1.den : Int) % (g : Int) = r := ⟨_, rfl⟩
      obtain ⟨d2, hd2⟩ : ∃ d2, denF d p = d2 := ⟨_, rfl⟩
      obtain ⟨T1, hT1⟩ : ∃ T, txt (p.1.den : Int) = T := ⟨_, rfl⟩
      obtain ⟨T2, hT2⟩ : ∃ T, txt (g : Int) = T := ⟨_, rfl⟩
      rw [hd2] at hmu HN
      rw [hq1] at hmu hdm
      rw [hr1] at hdm
      rw [hT1] at hpa hgc hdm
      rw [hT2] at hgc hdm
      rw [hd]
      clear hsd hdi hqi hgp hgl hgi hdf hql hqli hnext hg hq1 hr1 hd2 hT1 hT2 hst htk hd hp
      go_wp2_with (first
        | (with_reducible refine Calls.mono hpa ?_; rintro e w1 ⟨rfl, kk, rfl⟩; have hB1 := below_drewN hal kk; have hgcd := hgc _ (hW.below hB1))
        | (with_reducible refine Calls.mono hgcd ?_; rintro e w2 ⟨rfl, hb2⟩; have hB2 := htr _ _ _ (hB1) hb2; have hdmd := hdm _ (hW.below hB2))
        | (with_reducible refine Calls.mono hdmd ?_; rintro e w3 ⟨rfl, hb3⟩; have hB3 := htr _ _ _ (hB2) hb3; have hmud := hmu _ (hW.below hB3))
        | (with_reducible refine Calls.mono hmud ?_; rintro e w4 ⟨rfl, hb4⟩; have hB4 := htr _ _ _ (hB3) hb4))
      exact ⟨⟨k + 1, by congr 1, hkn, by rw [HN.out], hB4⟩, by simp [intOf]; omega⟩
    · have hke : l.take k = l := List.take_of_length_le (by have := HLN.out; omega)
      rw [hke, HRD.out]
      clear hke
      have hDk := HD.out l.length
      rw [List.take_length, HRD.out, HLN.out] at hDk
      obtain ⟨S, hS⟩ : ∃ S, (4 : Nat) ^ bits = S := ⟨_, rfl⟩
      have hSd : DL (S : Int) 5001 := by rw [← hS]; exact (pow4_dl bits).mono (by omega)
      have hD8 : DL RD 8001 := hDk.2.mono (by omega)
      have hpw := power_any 4 bits (by show (Lib.decDigits 4).length * bits ≤ 5000; rw [dec_small (by decide)]; show 1 * bits ≤ 5000; omega) (Nat.le_trans (DL.itoa (k := 1) (by show (Lib.decDigits 4).length ≤ 1; rw [dec_small (by decide)]; decide)) (by decide)) wr (hW.below hbel)
      rw [show (4 : Int) ^ bits = ((4 ^ bits : Nat) : Int) by rw [Int.natCast_pow]; rfl, hS] at hpw
      have hf : txt 4 = (⟨#[52]⟩ : ByteArray) := by apply bytes_ext; rw [txt_list, show (4 : Int) = ((4 : Nat) : Int) from rfl, itoa_nat, dec_small (by decide)]; rfl
      rw [hf] at hpw
      have hLH := fun k => low_dl (K := 8201) (M := 5202) l (D := RD) (S := S) (fun p hp => by
        have h1 := HS.out p hp
        have h2 := encK_dl hD8 h1.1
        have h3 := upB_dl h1.2 hSd (by decide)
        unfold encLow encHigh
        exact ⟨h2.mul (by split; exact h3.2; exact h3.1) (by decide), h2.mul (by split; exact h3.1; exact h3.2) (by decide)⟩) (by decide) k
      have HL := Lib.hid hLH
      have HDD := Lib.hid hD8
      have HSD := Lib.hid hSd
      have hDp := hDk.1
      have hrl := HRL.out
      have hrh := HRH.out
      rw [HRD.out, hS] at hrl hrh
      have HRL2 := Lib.hid hrl
      have HRH2 := Lib.hid hrh
      clear hLH hD8 hSd hDk hS HD hf hrl hrh HRL HRH
      go_wp2_with (with_reducible refine Calls.mono hpw ?_; rintro e w1 ⟨rfl, hb1⟩; have hB1 := htr _ _ _ hbel hb1)
      have hz : txt 0 = (⟨#[48]⟩ : ByteArray) := txt_zero
      clear hpw hb1 h0 hk hkn hbits
      go_loopw [4, 5, 57] (fun lv uv iv wr => ∃ k : Nat, iv = .int .i64 (k : Int) ∧ k ≤ n ∧ lv = .string (txt (lowL RD S (l.take k))) ∧ uv = .string (txt (highL RD S (l.take k))) ∧ Below w.heap.size w wr) (fun _ _ iv _ => n - (intOf iv).toNat)
      case atStart => exact ⟨0, rfl, Nat.zero_le _, by rw [← hz]; rfl, by rw [← hz]; rfl, hB1⟩
      case round =>
        clear hB1 hbel
        obtain ⟨k, rfl, hk, rfl, rfl, hbel⟩ := hrel
        by_cases hkn : k < n
        · obtain ⟨ad, t, rfl, hb, htk, hc1, hc2⟩ := (h.below hbel).at_ hkn
          obtain ⟨p, hp, rfl⟩ := tb_get htk
          have hst := HS.out p (List.mem_of_getElem? hp)
          rw [add_next] at hc2
          have hlk := (HL.out k).1.itoa
          have hhk := (HL.out k).2.itoa
          have hnl : lowL RD S (l.take (k + 1)) = lowL RD S (l.take k) + encLow RD S p := foldl_take _ _ _ hp
          have hnh : highL RD S (l.take (k + 1)) = highL RD S (l.take k) + encHigh RD S p := foldl_take _ _ _ hp
          obtain ⟨LO, hLO⟩ : ∃ x, lowL RD S (l.take k) = x := ⟨_, rfl⟩
          obtain ⟨HI, hHI⟩ : ∃ x, highL RD S (l.take k) = x := ⟨_, rfl⟩
          rw [hLO] at hnl hlk ⊢
          rw [hHI] at hnh hhk ⊢
          have HNL := Lib.hid hnl
          have HNH := Lib.hid hnh
          obtain ⟨O, hO⟩ : ∃ O, Obj.cells #[.string (rtxt p.1), .string (txt (p.2 : Int))] 45 = O := ⟨_, rfl⟩
          have hal : Below w.heap.size w (wr.alloc O) := hbel.alloc hbel.size _
          have k0 := heap_alloc_new wr O
          subst hO
          have hl0 := lt_of_block' k0
          have hW0 : w.heap.size ≤ wr.heap.size := hbel.size
          have hpa := parts_any p.1 (by have := rtl_rs hst.1; omega) _ (hW.below hal)
          have hDi := HDD.out.itoa
          have hSi := HSD.out.itoa
          have hqi := hst.1.den.itoa
          have hni := hst.1.num.itoa
          have hri := hst.2.itoa
          have hqp := p.1.den_pos
          have hdm := fun w hW => divmod_any RD (p.1.den : Int) (by omega) w hW (by omega) (by omega)
          have hq8 := (HDD.out.ediv (g := (p.1.den : Int))).itoa
          have hmk := fun w hW => mul_any (RD / (p.1.den : Int)) p.1.num w hW (by omega) (by omega)
          have hKd := encK_dl HDD.out hst.1
          have hKe : RD / (p.1.den : Int) * p.1.num = encK RD p.1 := rfl
          rw [hKe] at hmk
          have hPL : encLow RD S p = encK RD p.1 * ((if encK RD p.1 < 0 then upB S p.2 else upA S p.2 : Nat) : Int) := rfl
          have hPH : encHigh RD S p = encK RD p.1 * ((if encK RD p.1 < 0 then upA S p.2 else upB S p.2 : Nat) : Int) := rfl
          obtain ⟨K, hK⟩ : ∃ K, encK RD p.1 = K := ⟨_, rfl⟩
          rw [hK] at hmk hKd hPL hPH
          have hKi := hKd.itoa
          have hsg := fun w => sign_any K w
          have hmr := fun w hW => mul_any (p.2 : Int) (S : Int) w hW (by omega) (by omega)
          rw [← Int.natCast_mul] at hmr
          have hprd : DL ((p.2 * S : Nat) : Int) 400000 := by rw [Int.natCast_mul]; exact (hst.2.mul HSD.out (by decide)).mono (by decide)
          have hsr := fun w hW => sroot_any (p.2 * S) hprd w hW
          have hup := upB_dl hst.2 HSD.out (by decide)
          have hai := hup.1.itoa
          have hbi := hup.2.itoa
          have hA : isqrt (p.2 * S) = upA S p.2 := rfl
          have hB : upB S p.2 = if upA S p.2 * upA S p.2 = p.2 * S then upA S p.2 else upA S p.2 + 1 := rfl
          rw [hA] at hsr
          have hplo : (Lib.itoa (encLow RD S p)).length ≤ 20000 := by
            have : DL (encLow RD S p) (8201 + 5202) := by rw [hPL]; exact hKd.mul (by split; exact hup.2; exact hup.1) (by decide)
            have := this.itoa; omega
          have hphi : (Lib.itoa (encHigh RD S p)).length ≤ 20000 := by
            have : DL (encHigh RD S p) (8201 + 5202) := by rw [hPH]; exact hKd.mul (by split; exact hup.1; exact hup.2) (by decide)
            have := this.itoa; omega
          have ha1 := fun w hW => add_any LO (encLow RD S p) w hW (by omega) (by omega)
          have ha2 := fun w hW => add_any HI (encHigh RD S p) w hW (by omega) (by omega)
          have hadd := fun w hW => add_any ((upA S p.2 : Nat) : Int) 1 w hW (by omega) (by rw [show Lib.itoa 1 = [49] from itoa_one]; decide)
          have hmA := fun w hW => mul_any K ((upA S p.2 : Nat) : Int) w hW (by omega) (by omega)
          have hmB := fun w hW => mul_any K ((upB S p.2 : Nat) : Int) w hW (by omega) (by omega)
          rw [← Int.natCast_one, ← Int.natCast_add, Int.natCast_one, ← txt_one'] at hadd
          obtain ⟨a, ha⟩ : ∃ a, upA S p.2 = a := ⟨_, rfl⟩
          obtain ⟨b, hbb⟩ : ∃ b, upB S p.2 = b := ⟨_, rfl⟩
          obtain ⟨PL, hpl⟩ : ∃ a, encLow RD S p = a := ⟨_, rfl⟩
          obtain ⟨PH, hph⟩ : ∃ a, encHigh RD S p = a := ⟨_, rfl⟩
          obtain ⟨N, hN⟩ : ∃ a, p.2 * S = a := ⟨_, rfl⟩
          rw [ha, hN, hbb] at hB
          rw [ha, hbb, hpl] at hPL
          rw [ha, hbb, hph] at hPH
          rw [ha] at hmA hadd
          rw [hbb] at hmB
          rw [ha, hN] at hsr
          rw [hN] at hmr
          rw [hpl] at ha1 HNL
          rw [hph] at ha2 HNH
          obtain ⟨Q1, hQ1⟩ : ∃ a, RD / (p.1.den : Int) = a := ⟨_, rfl⟩
          obtain ⟨Q2, hQ2⟩ : ∃ a, RD % (p.1.den : Int) = a := ⟨_, rfl⟩
          obtain ⟨TD, hTD⟩ : ∃ a, txt (p.1.den : Int) = a := ⟨_, rfl⟩
          obtain ⟨TN, hTN⟩ : ∃ a, txt (N : Int) = a := ⟨_, rfl⟩
          obtain ⟨TS, hTS⟩ : ∃ a, txt (S : Int) = a := ⟨_, rfl⟩
          obtain ⟨TP, hTP⟩ : ∃ a, txt (p.2 : Int) = a := ⟨_, rfl⟩
          obtain ⟨TB, hTB⟩ : ∃ a, txt (b : Int) = a := ⟨_, rfl⟩
          obtain ⟨L2, hL2⟩ : ∃ a, LO + PL = a := ⟨_, rfl⟩
          obtain ⟨H2, hH2⟩ : ∃ a, HI + PH = a := ⟨_, rfl⟩
          rw [hL2] at ha1 HNL
          rw [hH2] at ha2 HNH
          rw [hTD] at hpa hdm
          rw [hQ1, hQ2] at hdm
          rw [hQ1] at hmk
          rw [hTN, hTS, hTP] at hmr
          rw [hTN] at hsr
          rw [hTB] at hmB
          rw [hTP] at hc2 k0 hal hl0 hpa
          rw [hTS]
          clear hp htk hst hlk hhk hnl hnh hLO hHI hDi hSi hqi hni hri hqp hq8 hKd hKe hK hKi hprd hup hai hbi hA hplo hphi ha hbb hpl hph hN hQ1 hQ2 hTD hTN hTS hTP hL2 hH2
          by_cases hKn : K < 0
          · rw [if_pos hKn] at hPL hPH
            have hm1 := hmB
            have hm2 := hmA
            rw [← hPL] at hm1
            rw [← hPH] at hm2
            rw [Int.sign_eq_neg_one_of_neg hKn] at hsg
            clear hmA hmB hPL hPH hKn
            by_cases hsq : a * a = N
            · rw [if_pos hsq] at hB
              subst hB
              rw [← hTB] at hm1
              rw [decide_eq_true hsq] at hsr
              clear hsq hTB
              go_wp2_with (first
                | (with_reducible refine Calls.mono hpa ?_; rintro e w1 ⟨rfl, kk, rfl⟩; have hB1 := below_drewN hal kk; have hl1 := hl0; have k1 := k0; replace hdm := hdm _ (hW.below hB1))
                | (with_reducible refine Calls.mono hdm ?_; rintro e w2 ⟨rfl, hb2⟩; have hB2 := htr _ _ _ hB1 hb2; have k2 := (hb2.block _ hl1).trans k1; have hl2 := lt_of_block' k2; replace hmk := hmk _ (hW.below hB2))
                | (with_reducible refine Calls.mono hmk ?_; rintro e w3 ⟨rfl, hb3⟩; have hB3 := htr _ _ _ hB2 hb3; have k3 := (hb3.block _ hl2).trans k2; have e3 := (cell2 k3).2; replace hmr := hmr _ (hW.below hB3))
                | (with_reducible refine Calls.mono hmr ?_; rintro e w4 ⟨rfl, hb4⟩; have hB4 := htr _ _ _ hB3 hb4; replace hsr := hsr _ (hW.below hB4))
                | (with_reducible refine Calls.mono hsr ?_; rintro e w5 ⟨rfl, hb5⟩; have hB5 := htr _ _ _ hB4 hb5; have haddd := hadd _ (hW.below hB5); have hsg5 := hsg w5)
                | (with_reducible refine Calls.mono haddd ?_; rintro e w6 ⟨rfl, hb6⟩; replace hB5 := htr _ _ _ hB5 hb6; have hsg5 := hsg w6)
                | (with_reducible refine Calls.mono hsg5 ?_; rintro e w7 ⟨rfl, hw7⟩; replace hw7 := hw7.symm; subst hw7; replace hm1 := hm1 _ (hW.below hB5))
                | (with_reducible refine Calls.mono hm1 ?_; rintro e w8 ⟨rfl, hb8⟩; have hB8 := htr _ _ _ hB5 hb8; replace ha1 := ha1 _ (hW.below hB8))
                | (with_reducible refine Calls.mono ha1 ?_; rintro e w9 ⟨rfl, hb9⟩; have hB9 := htr _ _ _ hB8 hb9; replace hm2 := hm2 _ (hW.below hB9))
                | (with_reducible refine Calls.mono hm2 ?_; rintro e wA ⟨rfl, hbA⟩; have hBA := htr _ _ _ hB9 hbA; replace ha2 := ha2 _ (hW.below hBA))
                | (with_reducible refine Calls.mono ha2 ?_; rintro e wB ⟨rfl, hbB⟩; have hBB := htr _ _ _ hBA hbB))
              exact ⟨⟨k + 1, by congr 1, hkn, by rw [HNL.out], by rw [HNH.out], hBB⟩, by simp [intOf]; omega⟩
            · rw [if_neg hsq] at hB
              subst hB
              rw [hTB] at hadd
              rw [decide_eq_false hsq] at hsr
              clear hsq hTB
              go_wp2_with (first
                | (with_reducible refine Calls.mono hpa ?_; rintro e w1 ⟨rfl, kk, rfl⟩; have hB1 := below_drewN hal kk; have hl1 := hl0; have k1 := k0; replace hdm := hdm _ (hW.below hB1))
                | (with_reducible refine Calls.mono hdm ?_; rintro e w2 ⟨rfl, hb2⟩; have hB2 := htr _ _ _ hB1 hb2; have k2 := (hb2.block _ hl1).trans k1; have hl2 := lt_of_block' k2; replace hmk := hmk _ (hW.below hB2))
                | (with_reducible refine Calls.mono hmk ?_; rintro e w3 ⟨rfl, hb3⟩; have hB3 := htr _ _ _ hB2 hb3; have k3 := (hb3.block _ hl2).trans k2; have e3 := (cell2 k3).2; replace hmr := hmr _ (hW.below hB3))
                | (with_reducible refine Calls.mono hmr ?_; rintro e w4 ⟨rfl, hb4⟩; have hB4 := htr _ _ _ hB3 hb4; replace hsr := hsr _ (hW.below hB4))
                | (with_reducible refine Calls.mono hsr ?_; rintro e w5 ⟨rfl, hb5⟩; have hB5 := htr _ _ _ hB4 hb5; have haddd := hadd _ (hW.below hB5); have hsg5 := hsg w5)
                | (with_reducible refine Calls.mono haddd ?_; rintro e w6 ⟨rfl, hb6⟩; replace hB5 := htr _ _ _ hB5 hb6; have hsg5 := hsg w6)
                | (with_reducible refine Calls.mono hsg5 ?_; rintro e w7 ⟨rfl, hw7⟩; replace hw7 := hw7.symm; subst hw7; replace hm1 := hm1 _ (hW.below hB5))
                | (with_reducible refine Calls.mono hm1 ?_; rintro e w8 ⟨rfl, hb8⟩; have hB8 := htr _ _ _ hB5 hb8; replace ha1 := ha1 _ (hW.below hB8))
                | (with_reducible refine Calls.mono ha1 ?_; rintro e w9 ⟨rfl, hb9⟩; have hB9 := htr _ _ _ hB8 hb9; replace hm2 := hm2 _ (hW.below hB9))
                | (with_reducible refine Calls.mono hm2 ?_; rintro e wA ⟨rfl, hbA⟩; have hBA := htr _ _ _ hB9 hbA; replace ha2 := ha2 _ (hW.below hBA))
                | (with_reducible refine Calls.mono ha2 ?_; rintro e wB ⟨rfl, hbB⟩; have hBB := htr _ _ _ hBA hbB))
              exact ⟨⟨k + 1, by congr 1, hkn, by rw [HNL.out], by rw [HNH.out], hBB⟩, by simp [intOf]; omega⟩
          · rw [if_neg hKn] at hPL hPH
            have hm1 := hmA
            have hm2 := hmB
            rw [← hPL] at hm1
            rw [← hPH] at hm2
            have hsgn : ¬ K.sign < 0 := fun h => hKn (Int.sign_neg_iff.1 h)
            obtain ⟨sg, hsge⟩ : ∃ s, K.sign = s := ⟨_, rfl⟩
            rw [hsge] at hsgn hsg
            clear hmA hmB hPL hPH hKn hsge
            by_cases hsq : a * a = N
            · rw [if_pos hsq] at hB
              subst hB
              rw [← hTB] at hm2
              rw [decide_eq_true hsq] at hsr
              clear hsq hTB
              go_wp2_with (first
                | (with_reducible refine Calls.mono hpa ?_; rintro e w1 ⟨rfl, kk, rfl⟩; have hB1 := below_drewN hal kk; have hl1 := hl0; have k1 := k0; replace hdm := hdm _ (hW.below hB1))
                | (with_reducible refine Calls.mono hdm ?_; rintro e w2 ⟨rfl, hb2⟩; have hB2 := htr _ _ _ hB1 hb2; have k2 := (hb2.block _ hl1).trans k1; have hl2 := lt_of_block' k2; replace hmk := hmk _ (hW.below hB2))
                | (with_reducible refine Calls.mono hmk ?_; rintro e w3 ⟨rfl, hb3⟩; have hB3 := htr _ _ _ hB2 hb3; have k3 := (hb3.block _ hl2).trans k2; have e3 := (cell2 k3).2; replace hmr := hmr _ (hW.below hB3))
                | (with_reducible refine Calls.mono hmr ?_; rintro e w4 ⟨rfl, hb4⟩; have hB4 := htr _ _ _ hB3 hb4; replace hsr := hsr _ (hW.below hB4))
                | (with_reducible refine Calls.mono hsr ?_; rintro e w5 ⟨rfl, hb5⟩; have hB5 := htr _ _ _ hB4 hb5; have haddd := hadd _ (hW.below hB5); have hsg5 := hsg w5)
                | (with_reducible refine Calls.mono haddd ?_; rintro e w6 ⟨rfl, hb6⟩; replace hB5 := htr _ _ _ hB5 hb6; have hsg5 := hsg w6)
                | (with_reducible refine Calls.mono hsg5 ?_; rintro e w7 ⟨rfl, hw7⟩; replace hw7 := hw7.symm; subst hw7; replace hm1 := hm1 _ (hW.below hB5))
                | (with_reducible refine Calls.mono hm1 ?_; rintro e w8 ⟨rfl, hb8⟩; have hB8 := htr _ _ _ hB5 hb8; replace ha1 := ha1 _ (hW.below hB8))
                | (with_reducible refine Calls.mono ha1 ?_; rintro e w9 ⟨rfl, hb9⟩; have hB9 := htr _ _ _ hB8 hb9; replace hm2 := hm2 _ (hW.below hB9))
                | (with_reducible refine Calls.mono hm2 ?_; rintro e wA ⟨rfl, hbA⟩; have hBA := htr _ _ _ hB9 hbA; replace ha2 := ha2 _ (hW.below hBA))
                | (with_reducible refine Calls.mono ha2 ?_; rintro e wB ⟨rfl, hbB⟩; have hBB := htr _ _ _ hBA hbB))
              exact ⟨⟨k + 1, by congr 1, hkn, by rw [HNL.out], by rw [HNH.out], hBB⟩, by simp [intOf]; omega⟩
            · rw [if_neg hsq] at hB
              subst hB
              rw [hTB] at hadd
              rw [decide_eq_false hsq] at hsr
              clear hsq hTB
              go_wp2_with (first
                | (with_reducible refine Calls.mono hpa ?_; rintro e w1 ⟨rfl, kk, rfl⟩; have hB1 := below_drewN hal kk; have hl1 := hl0; have k1 := k0; replace hdm := hdm _ (hW.below hB1))
                | (with_reducible refine Calls.mono hdm ?_; rintro e w2 ⟨rfl, hb2⟩; have hB2 := htr _ _ _ hB1 hb2; have k2 := (hb2.block _ hl1).trans k1; have hl2 := lt_of_block' k2; replace hmk := hmk _ (hW.below hB2))
                | (with_reducible refine Calls.mono hmk ?_; rintro e w3 ⟨rfl, hb3⟩; have hB3 := htr _ _ _ hB2 hb3; have k3 := (hb3.block _ hl2).trans k2; have e3 := (cell2 k3).2; replace hmr := hmr _ (hW.below hB3))
                | (with_reducible refine Calls.mono hmr ?_; rintro e w4 ⟨rfl, hb4⟩; have hB4 := htr _ _ _ hB3 hb4; replace hsr := hsr _ (hW.below hB4))
                | (with_reducible refine Calls.mono hsr ?_; rintro e w5 ⟨rfl, hb5⟩; have hB5 := htr _ _ _ hB4 hb5; have haddd := hadd _ (hW.below hB5); have hsg5 := hsg w5)
                | (with_reducible refine Calls.mono haddd ?_; rintro e w6 ⟨rfl, hb6⟩; replace hB5 := htr _ _ _ hB5 hb6; have hsg5 := hsg w6)
                | (with_reducible refine Calls.mono hsg5 ?_; rintro e w7 ⟨rfl, hw7⟩; replace hw7 := hw7.symm; subst hw7; replace hm1 := hm1 _ (hW.below hB5))
                | (with_reducible refine Calls.mono hm1 ?_; rintro e w8 ⟨rfl, hb8⟩; have hB8 := htr _ _ _ hB5 hb8; replace ha1 := ha1 _ (hW.below hB8))
                | (with_reducible refine Calls.mono ha1 ?_; rintro e w9 ⟨rfl, hb9⟩; have hB9 := htr _ _ _ hB8 hb9; replace hm2 := hm2 _ (hW.below hB9))
                | (with_reducible refine Calls.mono hm2 ?_; rintro e wA ⟨rfl, hbA⟩; have hBA := htr _ _ _ hB9 hbA; replace ha2 := ha2 _ (hW.below hBA))
                | (with_reducible refine Calls.mono ha2 ?_; rintro e wB ⟨rfl, hbB⟩; have hBB := htr _ _ _ hBA hbB))
              exact ⟨⟨k + 1, by congr 1, hkn, by rw [HNL.out], by rw [HNH.out], hBB⟩, by simp [intOf]; omega⟩
        · have hke : l.take k = l := List.take_of_length_le (by have := HLN.out; omega)
          rw [hke, HRL2.out, HRH2.out]
          clear hke
          go_wp2_with fail
          go_ret3
          exact ⟨rfl, hbel⟩
end Go.Proofs.YtgfgpepdkffhbaaGreatDoor.Kl
namespace Go.Proofs.YtgfgpepdkffhbaaGreatDoor.Kl
open Go.RowKit Go.Shelf
set_option linter.unusedVariables false
set_option linter.unusedSimpArgs false

theorem srat_nil (A : Option Addr) (c : Nat) (w : World) (hW : Wd w) (h : IsT w w.heap.size A 0 c (tb [])) :
    Calls Tryz.prog 16 #[.slice A 0 c] w fun e w' => e = .returned (.tuple #[.string ⟨#[48]⟩, .bool true, .int .i64 0]) ∧ Below w.heap.size w w' := by
  have hs : Sound [] := ⟨fun p hp => absurd hp (by simp), fun i j p q _ h _ => by simp at h⟩
  have hc := scheck_any A 0 c [] hs w hW h (by decide)
  go_enter Tryz.func16, Tryz.ntmps16
  go_wp2_with (with_reducible refine Calls.mono hc ?_; rintro e w1 ⟨rfl, hb1⟩)
  go_ret3
  exact ⟨rfl, hb1⟩

theorem srat_one (A : Option Addr) (c : Nat) (q : Rat) (r : Nat) (hs : Sound [(q, r)]) (w : World) (hW : Wd w) (h : IsT w w.heap.size A 1 c (tb [(q, r)])) :
    Calls Tryz.prog 16 #[.slice A 1 c] w fun e w' => e = .returned (if r = 1 then .tuple #[.string (rtxt q), .bool true, .int .i64 0] else .tuple #[.string ⟨#[]⟩, .bool false, .int .i64 0]) ∧ Below w.heap.size w w' := by
  have hc := scheck_any A 1 c _ hs w hW h (by decide)
  obtain ⟨ad, t, rfl, hb, htk, hc1, hc2⟩ := h.at_ (show 0 < 1 by decide)
  have hone : ((txt (r : Int)).toList == [49]) = decide (r = 1) := by
    rw [txt_is_one]
    by_cases h : r = 1
    · subst h; rfl
    · rw [decide_eq_false h, decide_eq_false (by omega)]
  clear hc1 hc2
  by_cases hr : r = 1
  · rw [if_pos hr]
    rw [decide_eq_true hr] at hone
    clear htk hr
    go_enter Tryz.func16, Tryz.ntmps16
    go_wp2_with fail
    with_reducible refine Calls.mono hc ?_
    rintro e w1 ⟨rfl, hb1⟩
    obtain ⟨ad', t, hA, hb', htk, d1, d2⟩ := (h.below hb1).at_ (show 0 < 1 by decide)
    cases hA
    obtain ⟨p, hp, rfl⟩ := tb_get htk
    cases hp
    rw [Nat.zero_mul] at d1 d2
    rw [add_next] at d2
    rw [show ad.add 0 = ad by simp [Addr.add]] at d1 d2
    clear htk
    go_wp2_with fail
    go_ret3
    exact ⟨rfl, hb1⟩
  · rw [if_neg hr]
    rw [decide_eq_false hr] at hone
    clear htk hr
    go_enter Tryz.func16, Tryz.ntmps16
    go_wp2_with fail
    with_reducible refine Calls.mono hc ?_
    rintro e w1 ⟨rfl, hb1⟩
    obtain ⟨ad', t, hA, hb', htk, d1, d2⟩ := (h.below hb1).at_ (show 0 < 1 by decide)
    cases hA
    obtain ⟨p, hp, rfl⟩ := tb_get htk
    cases hp
    rw [Nat.zero_mul] at d1 d2
    rw [add_next] at d2
    rw [show ad.add 0 = ad by simp [Addr.add]] at d1 d2
    clear htk
    go_wp2_with fail
    go_ret3
    exact ⟨rfl, hb1⟩

theorem srat_more (A : Option Addr) (n c : Nat) (l : List (Rat × Nat)) (hs : Sound l) (h2 : 2 ≤ n) (hm : n ≤ 40) (w : World) (hW : Wd w) (h : IsT w w.heap.size A n c (tb l)) :
    Calls Tryz.prog 16 #[.slice A n c] w fun e w' => e = .returned (.tuple #[.string ⟨#[]⟩, .bool false, .int .i64 0]) ∧ Below w.heap.size w w' := by
  have hc := scheck_any A n c l hs w hW h hm
  have hn0 : ((n : Int) == 0) = false := by simp; omega
  have hn1 : ((n : Int) == 1) = false := by simp; omega
  have hd0 : decide ((n : Int) = 0) = false := by simp; omega
  have hd1 : decide ((n : Int) = 1) = false := by simp; omega
  go_enter Tryz.func16, Tryz.ntmps16
  go_wp2_with (with_reducible refine Calls.mono hc ?_; rintro e w1 ⟨rfl, hb1⟩)
  go_ret3
  exact ⟨rfl, hb1⟩

/-- the bits of the j-th round. -/
theorem bits_le {j : Nat} (h : j ≤ 8) : 16 * 2 ^ j ≤ 4096 := by
  have := Nat.pow_le_pow_right (n := 2) (by decide) h
  omega

def lowAt (l : List (Rat × Nat)) (bits : Nat) : Int := lowL (denL l) (4 ^ bits) l
def highAt (l : List (Rat × Nat)) (bits : Nat) : Int := highL (denL l) (4 ^ bits) l

def SignIs (l : List (Rat × Nat)) (J : Nat) (s : Int) : Prop := ∃ j, j ≤ J ∧ ((s = 1 ∧ 0 < lowAt l (16 * 2 ^ j)) ∨ (s = -1 ∧ highAt l (16 * 2 ^ j) < 0))

set_option maxRecDepth 100000 in
theorem ssign_any (A : Option Addr) (n c : Nat) (l : List (Rat × Nat)) (hl : Terms l) (J : Nat) (hJ : J ≤ 8) (hend : 0 < lowAt l (16 * 2 ^ J) ∨ highAt l (16 * 2 ^ J) < 0) (w : World) (hW : Wd w) (h : IsT w w.heap.size A n c (tb l)) (hm : n ≤ 40) (h1 : 1 ≤ n) :
    Calls Tryz.prog 61 #[.slice A n c] w fun e w' => (∃ s : Int, e = .returned (.int .i64 s) ∧ SignIs l J s) ∧ Below w.heap.size w w' := by
  have hn0 : ((n : Int) == 0) = false := by simp; omega
  have hd0 : decide ((n : Int) = 0) = false := by simp; omega
  go_enter Tryz.func61, Tryz.ntmps61
  go_wp2_with fail
  go_loopw [3] (fun v wr => ∃ j : Nat, v = .int .i64 ((16 * 2 ^ j : Nat) : Int) ∧ j ≤ J ∧ Below w.heap.size w wr) (fun v _ => 5000 - (intOf v).toNat)
  case atStart => exact ⟨0, rfl, Nat.zero_le _, Below.refl _ _⟩
  case round =>
    obtain ⟨j, rfl, hj, hbel⟩ := hrel
    have hb := bits_le (show j ≤ 8 by omega)
    have hsq : 16 * 2 ^ (j + 1) = 16 * 2 ^ j * 2 := by rw [Nat.pow_succ]; omega
    have hjj : j < J → 16 * 2 ^ (j + 1) ≤ 4096 := fun h => bits_le (by omega)
    have hpos : 0 < 16 * 2 ^ j := by have := Nat.pow_pos (n := j) (show 0 < 2 by decide); omega
    have hen := enclose_any A n c l hl (16 * 2 ^ j) (by omega) wr (hW.below hbel) (h.to hbel (Nat.le_refl _)) hm
    have hlow : lowL (denL l) (4 ^ (16 * 2 ^ j)) l = lowAt l (16 * 2 ^ j) := rfl
    have hhigh : highL (denL l) (4 ^ (16 * 2 ^ j)) l = highAt l (16 * 2 ^ j) := rfl
    rw [hlow, hhigh] at hen
    have hres : ∀ s : Int, ((s = 1 ∧ 0 < lowAt l (16 * 2 ^ j)) ∨ (s = -1 ∧ highAt l (16 * 2 ^ j) < 0)) → SignIs l J s := fun s hs => ⟨j, hj, hs⟩
    have hnJ : ¬ 0 < lowAt l (16 * 2 ^ j) → ¬ highAt l (16 * 2 ^ j) < 0 → j < J := fun h1 h2 => by
      rcases Nat.lt_or_ge j J with h | h
      · exact h
      · have : j = J := by omega
        subst this
        rcases hend with h | h
        · exact absurd h h1
        · exact absurd h h2
    obtain ⟨X, hX⟩ : ∃ X, lowAt l (16 * 2 ^ j) = X := ⟨_, rfl⟩
    obtain ⟨Y, hY⟩ : ∃ X, highAt l (16 * 2 ^ j) = X := ⟨_, rfl⟩
    obtain ⟨D, hD⟩ : ∃ X, denL l = X := ⟨_, rfl⟩
    rw [hX, hY, hD] at hen
    rw [hX, hY] at hres hnJ
    have HSQ := Lib.hid hsq
    obtain ⟨b, hbb⟩ : ∃ b, 16 * 2 ^ j = b := ⟨_, rfl⟩
    rw [hbb] at hen hb hpos HSQ ⊢
    rw [HSQ.out] at hjj
    have hwr : IntKind.i64.wrap ((b : Int) * 2) = ((b * 2 : Nat) : Int) := by rw [IntWalk.i64_in _ ⟨by omega, by omega⟩]; omega
    have HRES := Lib.hid hres
    have HNJ := Lib.hid hnJ
    clear hsq hlow hhigh hres hnJ hX hY hD hbb
    have hsx := fun w => sign_any X w
    have hsy := fun w => sign_any Y w
    go_wp2_with fail
    with_reducible refine Calls.mono hen ?_
    rintro e w1 ⟨rfl, hb1⟩
    have hB1 := hbel.trans (hb1.mono hbel.size)
    have hsx1 := hsx w1
    have hsy1 := hsy w1
    by_cases hx0 : 0 < X
    · rw [Int.sign_eq_one_of_pos hx0] at hsx1
      have HR := Lib.hid (HRES.out 1 (Or.inl ⟨rfl, hx0⟩))
      clear HNJ HRES hx0 hend
      go_wp2_with (with_reducible refine Calls.mono hsx1 ?_; rintro e w2 ⟨rfl, rfl⟩)
      go_ret
      exact ⟨⟨1, rfl, HR.out⟩, hB1⟩
    · have hxs : ¬ 0 < X.sign := fun h => hx0 (Int.sign_pos_iff.1 h)
      obtain ⟨sx, hsx'⟩ : ∃ s, X.sign = s := ⟨_, rfl⟩
      rw [hsx'] at hsx1 hxs
      have hdx : decide (0 < sx) = false := decide_eq_false hxs
      by_cases hy0 : Y < 0
      · rw [Int.sign_eq_neg_one_of_neg hy0] at hsy1
        have HR := Lib.hid (HRES.out (-1) (Or.inr ⟨rfl, hy0⟩))
        clear HNJ HRES hx0 hy0 hend hsx'
        go_wp2_with (first
          | (with_reducible refine Calls.mono hsx1 ?_; rintro e w2 ⟨rfl, rfl⟩)
          | (with_reducible refine Calls.mono hsy1 ?_; rintro e w2 ⟨rfl, rfl⟩))
        go_ret
        exact ⟨⟨-1, rfl, HR.out⟩, hB1⟩
      · have hys : ¬ Y.sign < 0 := fun h => hy0 (Int.sign_neg_iff.1 h)
        obtain ⟨sy, hsy'⟩ : ∃ s, Y.sign = s := ⟨_, rfl⟩
        rw [hsy'] at hsy1 hys
        have hdy : decide (sy < 0) = false := decide_eq_false hys
        have hjn := HNJ.out (by omega) (by omega)
        have hb2 := hjj hjn
        clear HNJ HRES hx0 hy0 hend hsx' hsy' hjj
        go_wp2_with (first
          | (with_reducible refine Calls.mono hsx1 ?_; rintro e w2 ⟨rfl, rfl⟩)
          | (with_reducible refine Calls.mono hsy1 ?_; rintro e w2 ⟨rfl, rfl⟩))
        exact ⟨⟨j + 1, by rw [HSQ.out, Int.natCast_mul]; rfl, hjn, hB1⟩, by simp only [intOf]; omega⟩
end Go.Proofs.YtgfgpepdkffhbaaGreatDoor.Kl
namespace Go.Proofs.YtgfgpepdkffhbaaGreatDoor.Kl
open Go.RowKit Go.Shelf
set_option linter.unusedVariables false
set_option linter.unusedSimpArgs false

theorem sSign_any (A : Option Addr) (n c : Nat) (l : List (Rat × Nat)) (hl : Sound l) (J : Nat) (hJ : J ≤ 8) (hend : 0 < lowAt l (16 * 2 ^ J) ∨ highAt l (16 * 2 ^ J) < 0) (w : World) (hW : Wd w) (h : IsT w w.heap.size A n c (tb l)) (hm : n ≤ 40) (h1 : 1 ≤ n) :
    Calls Tryz.prog 26 #[.slice A n c] w fun e w' => (∃ s : Int, e = .returned (.tuple #[.int .i64 s, .int .i64 0]) ∧ SignIs l J s) ∧ Below w.heap.size w w' := by
  have hc := scheck_any A n c l hl w hW h hm
  have hs := fun w hW h => ssign_any A n c l hl.terms J hJ hend w hW h hm h1
  clear hend
  go_enter Tryz.func26, Tryz.ntmps26
  go_wp2_with fail
  with_reducible refine Calls.mono hc ?_
  rintro e w1 ⟨rfl, hb1⟩
  have hs1 := hs w1 (hW.below hb1) (h.to hb1 (Nat.le_refl _))
  go_wp2_with fail
  with_reducible refine Calls.mono hs1 ?_
  rintro e w2 ⟨⟨s, rfl, hsi⟩, hb2⟩
  go_wp2_with fail
  go_ret2
  exact ⟨⟨s, rfl, hsi⟩, hb1.trans (hb2.mono hb1.size)⟩

/-- floor of a rational number. -/
theorem sfloor_rat (A : Option Addr) (n c : Nat) (q : Rat) (hq : RS q) (b : Int) (hb : DL b 20) (w : World) (hW : Wd w) :
    Calls Tryz.prog 44 #[.slice A n c, .string (rtxt q), .bool true, .string (txt b)] w fun e w' => e = .returned (.tuple #[.string (txt (q.num * b / (q.den : Int))), .bool (decide (q.num * b % (q.den : Int) = 0))]) ∧ Below w.heap.size w w' := by
  have hp := parts_any q (by have := rtl_rs hq; omega) w hW
  have hni := hq.num.itoa
  have hbi := hb.itoa
  have hdi := hq.den.itoa
  have hqp := q.den_pos
  have hm := fun w hW => mul_any q.num b w hW (by omega) (by omega)
  have hmi := (hq.num.mul hb (by decide)).itoa
  have hd := fun w hW => divmod_any (q.num * b) (q.den : Int) (by omega) w hW (by omega) (by omega)
  have hz := txt_is_zero (q.num * b % (q.den : Int))
  obtain ⟨bb, hbb⟩ : ∃ bb, decide (q.num * b % (q.den : Int) = 0) = bb := ⟨_, rfl⟩
  rw [hbb] at hz ⊢
  obtain ⟨X, hX⟩ : ∃ X, q.num * b = X := ⟨_, rfl⟩
  rw [hX] at hm hd hz ⊢
  obtain ⟨Q, hQ⟩ : ∃ Y, X / (q.den : Int) = Y := ⟨_, rfl⟩
  obtain ⟨R, hR⟩ : ∃ Y, X % (q.den : Int) = Y := ⟨_, rfl⟩
  obtain ⟨D, hD⟩ : ∃ Y, txt (q.den : Int) = Y := ⟨_, rfl⟩
  rw [hQ] at hd ⊢
  rw [hR] at hd hz
  rw [hD] at hd hp
  clear hni hbi hdi hqp hmi hbb hX hQ hR hD
  go_enter Tryz.func44, Tryz.ntmps44
  go_wp2_with (first
    | (with_reducible refine Calls.mono hp ?_; rintro e w1 ⟨rfl, kk, rfl⟩; have hB1 := below_drewN (Below.refl w.heap.size w) kk; have hm1 := hm _ (hW.below hB1))
    | (with_reducible refine Calls.mono hm1 ?_; rintro e w2 ⟨rfl, hb2⟩; have hB2 := hB1.trans (hb2.mono hB1.size); have hd2 := hd _ (hW.below hB2))
    | (with_reducible refine Calls.mono hd2 ?_; rintro e w3 ⟨rfl, hb3⟩; have hB3 := hB2.trans (hb3.mono hB2.size)))
  go_ret2
  exact ⟨rfl, hB3⟩

def floorLo (l : List (Rat × Nat)) (b : Int) (bits : Nat) : Int := lowAt l bits * b / (denL l * ((2 ^ bits : Nat) : Int))
def floorHi (l : List (Rat × Nat)) (b : Int) (bits : Nat) : Int := highAt l bits * b / (denL l * ((2 ^ bits : Nat) : Int))
def FloorIs (l : List (Rat × Nat)) (b : Int) (J : Nat) (z : Int) : Prop := ∃ j, j ≤ J ∧ floorLo l b (16 * 2 ^ j) = z ∧ floorHi l b (16 * 2 ^ j) = z

theorem at_dl (l : List (Rat × Nat)) (hl : Terms l) (hm : l.length ≤ 40) (bits : Nat) (hb : bits ≤ 5000) : 0 < denL l ∧ DL (denL l) 8001 ∧ DL (lowAt l bits) 13443 ∧ DL (highAt l bits) 13443 := by
  have hd := denL_ok l (fun p hp => (hl p hp).1) l.length
  rw [List.take_length] at hd
  have hd8 : DL (denL l) 8001 := hd.2.mono (by omega)
  have hSd : DL ((4 ^ bits : Nat) : Int) 5001 := (pow4_dl bits).mono (by omega)
  have hLH := low_dl (K := 8201) (M := 5202) l (D := denL l) (S := 4 ^ bits) (fun p hp => by
    have h1 := hl p hp
    have h2 := encK_dl hd8 h1.1
    have h3 := upB_dl h1.2 hSd (by decide)
    unfold encLow encHigh
    exact ⟨h2.mul (by split; exact h3.2; exact h3.1) (by decide), h2.mul (by split; exact h3.1; exact h3.2) (by decide)⟩) (by decide) l.length
  rw [List.take_length] at hLH
  exact ⟨hd.1, hd8, hLH.1.mono (by omega), hLH.2.mono (by omega)⟩

set_option maxRecDepth 100000 in
theorem sfloor_irr (A : Option Addr) (n c : Nat) (x : ByteArray) (l : List (Rat × Nat)) (hl : Terms l) (b : Int) (hb : DL b 20) (J : Nat) (hJ : J ≤ 8) (hend : floorLo l b (16 * 2 ^ J) = floorHi l b (16 * 2 ^ J)) (w : World) (hW : Wd w) (h : IsT w w.heap.size A n c (tb l)) (hm : n ≤ 40) :
    Calls Tryz.prog 44 #[.slice A n c, .string x, .bool false, .string (txt b)] w fun e w' => (∃ z : Int, e = .returned (.tuple #[.string (txt z), .bool false]) ∧ FloorIs l b J z) ∧ Below w.heap.size w w' := by
  have hln : l.length = n := by have := h.len; rw [tb_length] at this; exact this
  have HLN := Lib.hid hln; clear hln
  have HB := Lib.hid hb; clear hb
  have htwo : txt 2 = (⟨#[50]⟩ : ByteArray) := by apply bytes_ext; rw [txt_list, show (2 : Int) = ((2 : Nat) : Int) from rfl, itoa_nat, dec_small (by decide)]; rfl
  go_enter Tryz.func44, Tryz.ntmps44
  go_wp2_with fail
  go_loopw [15] (fun v wr => ∃ j : Nat, v = .int .i64 ((16 * 2 ^ j : Nat) : Int) ∧ j ≤ J ∧ Below w.heap.size w wr) (fun v _ => 5000 - (intOf v).toNat)
  case atStart => exact ⟨0, rfl, Nat.zero_le _, Below.refl _ _⟩
  case round =>
    obtain ⟨j, rfl, hj, hbel⟩ := hrel
    have hbt := bits_le (show j ≤ 8 by omega)
    have hsq : 16 * 2 ^ (j + 1) = 16 * 2 ^ j * 2 := by rw [Nat.pow_succ]; omega
    have hjj : j < J → 16 * 2 ^ (j + 1) ≤ 4096 := fun h => bits_le (by omega)
    have hpos : 0 < 16 * 2 ^ j := by have := Nat.pow_pos (n := j) (show 0 < 2 by decide); omega
    have hen := enclose_any A n c l hl (16 * 2 ^ j) (by omega) wr (hW.below hbel) (h.to hbel (Nat.le_refl _)) hm
    have hlow : lowL (denL l) (4 ^ (16 * 2 ^ j)) l = lowAt l (16 * 2 ^ j) := rfl
    have hhigh : highL (denL l) (4 ^ (16 * 2 ^ j)) l = highAt l (16 * 2 ^ j) := rfl
    rw [hlow, hhigh] at hen
    have hres : ∀ z : Int, floorLo l b (16 * 2 ^ j) = z → floorHi l b (16 * 2 ^ j) = z → FloorIs l b J z := fun z h1 h2 => ⟨j, hj, h1, h2⟩
    have hnJ : ¬ floorLo l b (16 * 2 ^ j) = floorHi l b (16 * 2 ^ j) → j < J := fun h1 => by
      rcases Nat.lt_or_ge j J with h | h
      · exact h
      · have : j = J := by omega
        subst this
        exact absurd hend h1
    have hat := at_dl l hl (by have := HLN.out; omega) (16 * 2 ^ j) (by omega)
    have hpw := fun w hW => power_any 2 (16 * 2 ^ j) (by show (Lib.decDigits 2).length * (16 * 2 ^ j) ≤ 5000; rw [dec_small (by decide)]; show 1 * (16 * 2 ^ j) ≤ 5000; omega) (Nat.le_trans (DL.itoa (k := 1) (by show (Lib.decDigits 2).length ≤ 1; rw [dec_small (by decide)]; decide)) (by decide)) w hW
    rw [show (2 : Int) ^ (16 * 2 ^ j) = ((2 ^ (16 * 2 ^ j) : Nat) : Int) by rw [Int.natCast_pow]; rfl, htwo] at hpw
    have hPd : DL ((2 ^ (16 * 2 ^ j) : Nat) : Int) 5001 := ((pow4_dl (16 * 2 ^ j)).le (Nat.pow_le_pow_left (by decide) _) (by omega)).mono (by omega)
    have hPp : 0 < 2 ^ (16 * 2 ^ j) := Nat.pow_pos (by decide)
    have hfl : floorLo l b (16 * 2 ^ j) = lowAt l (16 * 2 ^ j) * b / (denL l * ((2 ^ (16 * 2 ^ j) : Nat) : Int)) := rfl
    have hfh : floorHi l b (16 * 2 ^ j) = highAt l (16 * 2 ^ j) * b / (denL l * ((2 ^ (16 * 2 ^ j) : Nat) : Int)) := rfl
    obtain ⟨F, hF⟩ : ∃ X, floorLo l b (16 * 2 ^ j) = X := ⟨_, rfl⟩
    obtain ⟨G, hG⟩ : ∃ X, floorHi l b (16 * 2 ^ j) = X := ⟨_, rfl⟩
    obtain ⟨X, hX⟩ : ∃ X, lowAt l (16 * 2 ^ j) = X := ⟨_, rfl⟩
    obtain ⟨Y, hY⟩ : ∃ X, highAt l (16 * 2 ^ j) = X := ⟨_, rfl⟩
    obtain ⟨D, hD⟩ : ∃ X, denL l = X := ⟨_, rfl⟩
    obtain ⟨P, hP⟩ : ∃ X, 2 ^ (16 * 2 ^ j) = X := ⟨_, rfl⟩
    rw [hX, hY, hD] at hen hat
    rw [hF, hG] at hres hnJ
    rw [hF, hX, hD, hP] at hfl
    rw [hG, hY, hD, hP] at hfh
    rw [hP] at hpw hPd hPp
    have HSQ := Lib.hid hsq
    obtain ⟨bt, hbb⟩ : ∃ b, 16 * 2 ^ j = b := ⟨_, rfl⟩
    rw [hbb] at hen hbt hpos HSQ hpw ⊢
    rw [HSQ.out] at hjj
    have hwr : IntKind.i64.wrap ((bt : Int) * 2) = ((bt * 2 : Nat) : Int) := by rw [IntWalk.i64_in _ ⟨by omega, by omega⟩]; omega
    have HRES := Lib.hid hres
    have HNJ := Lib.hid hnJ
    obtain ⟨hDp, hDd, hXd, hYd⟩ := hat
    have hDP : 0 < D * (P : Int) := Int.mul_pos hDp (by omega)
    have hDPd : DL (D * (P : Int)) 13002 := hDd.mul hPd (by decide)
    have hXb : DL (X * b) 13463 := hXd.mul HB.out (by decide)
    have hYb : DL (Y * b) 13463 := hYd.mul HB.out (by decide)
    have i1 := hDPd.itoa
    have i2 := hXb.itoa
    have i3 := hYb.itoa
    have i4 := hDd.itoa
    have i5 := hPd.itoa
    have i6 := hXd.itoa
    have i7 := hYd.itoa
    have i8 := HB.out.itoa
    have hmDP := fun w hW => mul_any D (P : Int) w hW (by omega) (by omega)
    have hmX := fun w hW => mul_any X b w hW (by omega) (by omega)
    have hmY := fun w hW => mul_any Y b w hW (by omega) (by omega)
    have hdX := fun w hW => divmod_any (X * b) (D * (P : Int)) (by omega) w hW (by omega) (by omega)
    have hdY := fun w hW => divmod_any (Y * b) (D * (P : Int)) (by omega) w hW (by omega) (by omega)
    rw [← hfl] at hdX
    rw [← hfh] at hdY
    obtain ⟨DP, hdp⟩ : ∃ x, D * (P : Int) = x := ⟨_, rfl⟩
    obtain ⟨XB, hxb⟩ : ∃ x, X * b = x := ⟨_, rfl⟩
    obtain ⟨YB, hyb⟩ : ∃ x, Y * b = x := ⟨_, rfl⟩
    rw [hdp] at hmDP hdX hdY
    rw [hxb] at hmX hdX
    rw [hyb] at hmY hdY
    obtain ⟨R1, hr1⟩ : ∃ x, XB % DP = x := ⟨_, rfl⟩
    obtain ⟨R2, hr2⟩ : ∃ x, YB % DP = x := ⟨_, rfl⟩
    rw [hr1] at hdX
    rw [hr2] at hdY
    obtain ⟨TP, htp⟩ : ∃ x, txt (P : Int) = x := ⟨_, rfl⟩
    rw [htp] at hpw hmDP
    have hbeq := txt_beq F G
    clear hsq hlow hhigh hres hnJ hX hY hD hP hbb hF hG hfl hfh hDp hDd hXd hYd hDP hDPd hXb hYb i1 i2 i3 i4 i5 i6 i7 i8 hdp hxb hyb hr1 hr2 htp hPd hPp hend htwo
    go_wp2_with (first
      | (with_reducible refine Calls.mono hen ?_; rintro e w1 ⟨rfl, hb1⟩; have hB1 := hbel.trans (hb1.mono hbel.size); have q1 := hpw _ (hW.below hB1))
      | (with_reducible refine Calls.mono q1 ?_; rintro e w2 ⟨rfl, hb2⟩; have hB2 := hB1.trans (hb2.mono hB1.size); have q2 := hmDP _ (hW.below hB2))
      | (with_reducible refine Calls.mono q2 ?_; rintro e w3 ⟨rfl, hb3⟩; have hB3 := hB2.trans (hb3.mono hB2.size); have q3 := hmX _ (hW.below hB3))
      | (with_reducible refine Calls.mono q3 ?_; rintro e w4 ⟨rfl, hb4⟩; have hB4 := hB3.trans (hb4.mono hB3.size); have q4 := hdX _ (hW.below hB4))
      | (with_reducible refine Calls.mono q4 ?_; rintro e w5 ⟨rfl, hb5⟩; have hB5 := hB4.trans (hb5.mono hB4.size); have q5 := hmY _ (hW.below hB5))
      | (with_reducible refine Calls.mono q5 ?_; rintro e w6 ⟨rfl, hb6⟩; have hB6 := hB5.trans (hb6.mono hB5.size); have q6 := hdY _ (hW.below hB6)))
    with_reducible refine Calls.mono q6 ?_
    rintro e w7 ⟨rfl, hb7⟩
    have hB7 := hB6.trans (hb7.mono hB6.size)
    by_cases hFG : F = G
    · rw [decide_eq_true hFG] at hbeq
      have HR := Lib.hid (HRES.out F rfl hFG.symm)
      clear HRES HNJ hFG
      go_wp2_with fail
      go_ret2
      exact ⟨⟨F, rfl, HR.out⟩, hB7⟩
    · rw [decide_eq_false hFG] at hbeq
      have hjn := HNJ.out hFG
      have hb2 := hjj hjn
      clear HRES HNJ hFG hjj
      go_wp2_with fail
      exact ⟨⟨j + 1, by rw [HSQ.out, Int.natCast_mul]; rfl, hjn, hB7⟩, by simp only [intOf]; omega⟩
end Go.Proofs.YtgfgpepdkffhbaaGreatDoor.Kl
namespace Go.Proofs.YtgfgpepdkffhbaaGreatDoor.Kl
open Go.RowKit Go.Shelf
set_option linter.unusedVariables false
set_option linter.unusedSimpArgs false

theorem dl_one {k : Nat} (hk : 1 ≤ k) : DL 1 k := DL.mono (by show (Lib.decDigits 1).length ≤ 1; rw [dec_small (by decide)]; decide) hk

section
variable (A : Option Addr) (n c : Nat) (ts : List (ByteArray × ByteArray)) (x : ByteArray) (is : Bool)

theorem sbounds_range (b : Int) (hb : b < 1 ∨ 1000000 < b) (hR : ∀ w, Wd w → IsT w w.heap.size A n c ts → Calls Tryz.prog 16 #[.slice A n c] w fun e w' => e = .returned (.tuple #[.string x, .bool is, .int .i64 0]) ∧ Below w.heap.size w w')
    (w : World) (hW : Wd w) (h : IsT w w.heap.size A n c ts) :
    Calls Tryz.prog 17 #[.slice A n c, .int .i64 b] w fun e w' => e = .returned (.tuple #[.string ⟨#[]⟩, .string ⟨#[]⟩, .int .i64 3]) ∧ Below w.heap.size w w' := by
  have h1 := hR w hW h
  clear hR
  by_cases hb1 : b < 1
  · have hd : decide (b < 1) = true := decide_eq_true hb1
    clear hb
    go_enter Tryz.func17, Tryz.ntmps17
    go_wp2_with (with_reducible refine Calls.mono h1 ?_; rintro e w1 ⟨rfl, hbw⟩)
    go_ret3
    exact ⟨rfl, hbw⟩
  · have hb2 : 1000000 < b := by omega
    have hd : decide (b < 1) = false := decide_eq_false hb1
    have hd2 : decide (1000000 < b) = true := decide_eq_true hb2
    clear hb
    go_enter Tryz.func17, Tryz.ntmps17
    go_wp2_with (with_reducible refine Calls.mono h1 ?_; rintro e w1 ⟨rfl, hbw⟩)
    go_ret3
    exact ⟨rfl, hbw⟩

set_option maxRecDepth 100000 in
theorem sbounds_in (ex : Bool) (P : Int → Prop) (b : Int) (h1 : 1 ≤ b) (h2 : b ≤ 1000000)
    (hR : ∀ w, Wd w → IsT w w.heap.size A n c ts → Calls Tryz.prog 16 #[.slice A n c] w fun e w' => e = .returned (.tuple #[.string x, .bool is, .int .i64 0]) ∧ Below w.heap.size w w')
    (hF : ∀ w, Wd w → IsT w w.heap.size A n c ts → Calls Tryz.prog 44 #[.slice A n c, .string x, .bool is, .string (txt b)] w fun e w' => (∃ z : Int, e = .returned (.tuple #[.string (txt z), .bool ex]) ∧ P z) ∧ Below w.heap.size w w')
    (hP : ∀ z, P z → RS (Rat.divInt z b) ∧ RS (Rat.divInt (z + 1) b) ∧ DL z 500)
    (w : World) (hW : Wd w) (h : IsT w w.heap.size A n c ts) :
    Calls Tryz.prog 17 #[.slice A n c, .int .i64 b] w fun e w' => (∃ z : Int, e = .returned (.tuple #[.string (rtxt (Rat.divInt z b)), .string (rtxt (Rat.divInt (if ex then z else z + 1) b)), .int .i64 0]) ∧ P z) ∧ Below w.heap.size w w' := by
  have g1 := hR w hW h
  have g2 := fun w hW => of_any b (by omega) (by omega) w hW
  have hd : decide (b < 1) = false := decide_eq_false (by omega)
  have hd2 : decide (1000000 < b) = false := decide_eq_false (by omega)
  have hbd : DL b 20 := DL.of_lt (by show b.natAbs < 10 ^ 20; omega) (by decide)
  clear hR
  go_enter Tryz.func17, Tryz.ntmps17
  go_wp2_with fail
  with_reducible refine Calls.mono g1 ?_
  rintro e w1 ⟨rfl, hb1⟩
  have g3 := g2 w1 (hW.below hb1)
  go_wp2_with (with_reducible refine Calls.mono g3 ?_; rintro e w2 ⟨rfl, hb2⟩)
  have hB2 := hb1.trans (hb2.mono hb1.size)
  have g4 := hF w2 (hW.below hB2) (h.to hB2 (Nat.le_refl _))
  with_reducible refine Calls.mono g4 ?_
  rintro e w3 ⟨⟨z, rfl, hz⟩, hb3⟩
  have hB3 := hB2.trans (hb3.mono hB2.size)
  have hpz := hP z hz
  have HZ := Lib.hid hz
  have hzi := hpz.2.2.itoa
  have o1 := fun w hW => over_any z b (by omega) (hpz.2.2.mono (by decide)) (hbd.mono (by decide)) w hW
  have hz1 : DL (z + 1) 501 := hpz.2.2.add (dl_one (by decide))
  have o2 := fun w hW => over_any (z + 1) b (by omega) (hz1.mono (by decide)) (hbd.mono (by decide)) w hW
  have ad := fun w hW => add_any z 1 w hW (by omega) (by rw [itoa_one]; decide)
  rw [← txt_one'] at ad
  have c1 := fun w hW => checkR_right _ hpz.1 w hW
  have c2 := fun w hW => checkR_right _ hpz.2.1 w hW
  obtain ⟨F1, hF1⟩ : ∃ F, rtxt (Rat.divInt z b) = F := ⟨_, rfl⟩
  obtain ⟨F2, hF2⟩ : ∃ F, rtxt (Rat.divInt (z + 1) b) = F := ⟨_, rfl⟩
  rw [hF1] at o1 c1
  rw [hF2] at o2 c2
  have o3 := o1 w3 (hW.below hB3)
  have HF1 := Lib.hid hF1
  have HF2 := Lib.hid hF2
  clear hpz hz hzi hz1 hF1 hF2 g1 g2 hP hF hb1 hb2 hb3
  cases ex
  · go_wp2_with fail
    with_reducible refine Calls.mono o3 ?_
    rintro e w4 ⟨rfl, hb4⟩
    have hB4 := hB3.trans (hb4.mono hB3.size)
    have o4 := o1 w4 (hW.below hB4)
    go_wp2_with fail
    with_reducible refine Calls.mono o4 ?_
    rintro e w5 ⟨rfl, hb5⟩
    have hB5 := hB4.trans (hb5.mono hB4.size)
    have a5 := ad w5 (hW.below hB5)
    clear o1
    go_wp2_with (first
      | (with_reducible refine Calls.mono a5 ?_; rintro e w6 ⟨rfl, hb6⟩; have hB6 := hB5.trans (hb6.mono hB5.size); have a6 := o2 w6 (hW.below hB6))
      | (with_reducible refine Calls.mono a6 ?_; rintro e w7 ⟨rfl, hb7⟩; have hB7 := hB6.trans (hb7.mono hB6.size); have a7 := c1 w7 (hW.below hB7))
      | (with_reducible refine Calls.mono a7 ?_; rintro e w8 ⟨rfl, hb8⟩; have hB8 := hB7.trans (hb8.mono hB7.size); have a8 := c2 w8 (hW.below hB8))
      | (with_reducible refine Calls.mono a8 ?_; rintro e w9 ⟨rfl, hb9⟩; have hB9 := hB8.trans (hb9.mono hB8.size)))
    go_ret3
    refine ⟨⟨z, ?_, HZ.out⟩, hB9⟩
    have f1 := HF1.out
    have f2 := HF2.out
    subst f1; subst f2; rfl
  · go_wp2_with fail
    with_reducible refine Calls.mono o3 ?_
    rintro e w4 ⟨rfl, hb4⟩
    have hB4 := hB3.trans (hb4.mono hB3.size)
    have o4 := o1 w4 (hW.below hB4)
    go_wp2_with fail
    with_reducible refine Calls.mono o4 ?_
    rintro e w5 ⟨rfl, hb5⟩
    have hB5 := hB4.trans (hb5.mono hB4.size)
    have a7 := c1 w5 (hW.below hB5)
    go_wp2_with fail
    with_reducible refine Calls.mono a7 ?_
    rintro e w8 ⟨rfl, hb8⟩
    have hB8 := hB5.trans (hb8.mono hB5.size)
    have a8 := c1 w8 (hW.below hB8)
    go_wp2_with (with_reducible refine Calls.mono a8 ?_; rintro e w9 ⟨rfl, hb9⟩; have hB9 := hB8.trans (hb9.mono hB8.size))
    go_ret3
    refine ⟨⟨z, ?_, HZ.out⟩, hB9⟩
    have f1 := HF1.out
    subst f1; rfl
end
end Go.Proofs.YtgfgpepdkffhbaaGreatDoor.Kl
