/- klipperef03.Join. -/
import Derived.Test.YtgfgpepdkffhbaaGreatDoorIns
import Derived.Test.YtgfgpepdkffhbaaGreatDoorKnown
namespace Go.Proofs.YtgfgpepdkffhbaaGreatDoor.Kl
open Go.RowKit Go.Shelf
set_option linter.unusedVariables false
set_option linter.unusedSimpArgs false

def timesL (b : List (Rat × Nat)) (k : Rat) : List (Rat × Nat) := b.map fun p => (p.1 * k, p.2)
def joinAll (a b : List (Rat × Nat)) (k : Rat) : List (Rat × Nat) := a ++ timesL b k
def leastTo (all : List (Rat × Nat)) (r : Nat) : Nat → Nat
  | 0 => r
  | j + 1 => match all[j]? with
    | some p => if Sq (p.2 * r) ∧ p.2 < leastTo all r j then p.2 else leastTo all r j
    | none => leastTo all r j
def firstTo (all : List (Rat × Nat)) (i r : Nat) : Nat → Bool
  | 0 => true
  | j + 1 => match all[j]? with
    | some p => if Sq (p.2 * r) then firstTo all i r j && decide (i ≤ j) else firstTo all i r j
    | none => firstTo all i r j
def facOf (r m : Nat) : Rat := Rat.divInt ((isqrt (r * m) : Nat) : Int) (m : Int)
def sumTo (all : List (Rat × Nat)) (m : Nat) : Nat → Rat
  | 0 => 0
  | j + 1 => match all[j]? with
    | some p => if Sq (p.2 * m) then sumTo all m j + p.1 * facOf p.2 m else sumTo all m j
    | none => sumTo all m j
def outTo (all : List (Rat × Nat)) : Nat → List (Rat × Nat)
  | 0 => []
  | i + 1 => match all[i]? with
    | some p => if firstTo all i p.2 all.length = true ∧ (sumTo all (leastTo all p.2 all.length) all.length).num ≠ 0 then insL (outTo all i) (sumTo all (leastTo all p.2 all.length) all.length, leastTo all p.2 all.length) else outTo all i
    | none => outTo all i
def joinL (a b : List (Rat × Nat)) (k : Rat) : List (Rat × Nat) := outTo (joinAll a b k) (joinAll a b k).length

structure AllOk (all : List (Rat × Nat)) : Prop where
  len : all.length ≤ 1000
  one : ∀ p ∈ all, RS p.1 ∧ DL (p.2 : Int) 200 ∧ 0 < p.2
  fac : ∀ p ∈ all, ∀ q ∈ all, Sq (p.2 * q.2) → RS (facOf p.2 q.2) ∧ RS (p.1 * facOf p.2 q.2)
  sum : ∀ q ∈ all, ∀ j, RS (sumTo all q.2 j)

theorem leastTo_mem {all : List (Rat × Nat)} {r : Nat} (hr : ∃ q ∈ all, q.2 = r) (j : Nat) : ∃ q ∈ all, q.2 = leastTo all r j := by
  induction j with
  | zero => exact hr
  | succ j ih =>
    unfold leastTo
    split
    · rename_i p hp
      split
      · exact ⟨p, List.mem_of_getElem? hp, rfl⟩
      · exact ih
    · exact ih
theorem insTo_mem (l : List (Rat × Nat)) (x : Rat × Nat) (k : Nat) : ∀ p ∈ (insTo l x k).1, p = x ∨ p ∈ l := by
  induction k with
  | zero => simp [insTo]
  | succ k ih =>
    intro p hp
    unfold insTo at hp
    split at hp
    · rename_i q hq
      split at hp
      · simp only [List.mem_append, List.mem_singleton] at hp
        rcases hp with (h | h) | h
        · exact ih p h
        · exact Or.inl h
        · subst h; exact Or.inr (List.mem_of_getElem? hq)
      · simp only [List.mem_append, List.mem_singleton] at hp
        rcases hp with h | h
        · exact ih p h
        · subst h; exact Or.inr (List.mem_of_getElem? hq)
    · exact ih p hp
theorem insL_mem {l : List (Rat × Nat)} {x p : Rat × Nat} (h : p ∈ insL l x) : p = x ∨ p ∈ l := by
  unfold insL at h
  split at h
  · exact insTo_mem l x _ p h
  · simp only [List.mem_append, List.mem_singleton] at h
    rcases h with h | h
    · exact insTo_mem l x _ p h
    · exact Or.inl h
theorem insL_le (l : List (Rat × Nat)) (x : Rat × Nat) : (insL l x).length ≤ l.length + 1 := by
  have h := insTo_len l x l.length
  unfold insL
  split
  · rename_i hd; rw [if_pos hd] at h; exact h
  · rename_i hd; rw [if_neg hd] at h; simp; omega
theorem outTo_le (all : List (Rat × Nat)) (i : Nat) : (outTo all i).length ≤ i := by
  induction i with
  | zero => simp [outTo]
  | succ i ih =>
    unfold outTo
    split
    · split
      · exact Nat.le_trans (insL_le _ _) (by omega)
      · omega
    · omega
theorem outTo_dl {all : List (Rat × Nat)} (h : AllOk all) (i : Nat) : ∀ p ∈ outTo all i, DL (p.2 : Int) 200 := by
  induction i with
  | zero => simp [outTo]
  | succ i ih =>
    intro p hp
    unfold outTo at hp
    split at hp
    · rename_i q hq
      split at hp
      · rcases insL_mem hp with e | h2
        · obtain ⟨q', hq', e'⟩ := leastTo_mem ⟨q, List.mem_of_getElem? hq, rfl⟩ all.length
          rw [e]
          simp only
          rw [← e']
          exact (h.one q' hq').2.1
        · exact ih p h2
      · exact ih p hp
    · exact ih p hp

/-- the first half: all terms in one row. -/
def AllIs (all : List (Rat × Nat)) (base : Nat) (v : Value) (w : World) : Prop := OwnT 39 w base v (tb all)

/-- the search for the least alike radicand. -/
structure LeastSt (all : List (Rat × Nat)) (i r j : Nat) (m : Nat) (f : Bool) : Prop where
  least : leastTo all r j = m
  first : firstTo all i r j = f

set_option maxRecDepth 100000 in
set_option maxHeartbeats 4000000 in
theorem refJoin_any (A B : Option Addr) (na ca nb cb : Nat) (a b : List (Rat × Nat)) (k : Rat) (w : World) (hW : Wd w) (ha : IsT w w.heap.size A na ca (tb a)) (hb : IsT w w.heap.size B nb cb (tb b))
    (hk : RS k) (hrb : ∀ p ∈ b, RS p.1) (hall : AllOk (joinAll a b k)) :
    Calls Tryz.prog 40 #[.slice A na ca, .slice B nb cb, .string (rtxt k)] w fun e w' => (∃ A1 n1 c1, e = .returned (.slice A1 n1 c1) ∧ n1 = (joinL a b k).length ∧ IsT w' w'.heap.size A1 n1 c1 (tb (joinL a b k))) ∧ Below w.heap.size w w' := by
  obtain ⟨i0, hi0, hz0, hz1, hz2⟩ := term_parts info_rterm
  have hla : a.length = na := by have := ha.len; rw [tb_length] at this; exact this
  have hlb : b.length = nb := by have := hb.len; rw [tb_length] at this; exact this
  have hln : na + nb ≤ 1000 := by
    have := hall.len
    unfold joinAll timesL at this
    rw [List.length_append, List.length_map] at this
    omega
  have hald : (joinAll a b k).length = na + nb := by
    unfold joinAll timesL
    rw [List.length_append, List.length_map]
    omega
  have HLA := Lib.hid hla; clear hla
  have HLB := Lib.hid hlb; clear hlb
  have HALD := Lib.hid hald; clear hald
  obtain ⟨KT, hKT⟩ : ∃ K, rtxt k = K := ⟨_, rfl⟩
  have tim : ∀ (q : Rat), RS q → ∀ w, Wd w → Calls Tryz.prog 46 #[.string (rtxt q), .string KT] w fun e w' => e = .returned (.string (rtxt (q * k))) ∧ Below w.heap.size w w' := by
    intro q hq w hW
    have := refTimes_any q k hq hk w hW
    rw [hKT] at this; exact this
  rw [hKT]
  clear hKT
  have HRB := Lib.hid hrb; clear hrb
  have HALL := Lib.hid hall; clear hall
  have HTIM := Lib.hid tim; clear tim
  have HHB := Lib.hid hb
  have hal0 := (Below.refl w.heap.size w).alloc (Nat.le_refl _) (.cells #[] 39)
  have hem0 : OwnT 39 (w.alloc (.cells #[] 39)) w.heap.size (.slice (some ⟨w.heap.size, 0, none⟩) 0 0) [] := OwnT.empty (heap_alloc_new w _) (Nat.le_refl _)
  have hat := ha.below hal0
  have h63 : ([] : List (ByteArray × ByteArray)).length + na ≤ maxLen := by unfold maxLen; simp; omega
  have h64 : (([] : List (ByteArray × ByteArray)).length + na) * 32 ≤ 140737488355328 := by simp; omega
  have hs0 := hal0.size
  have hq0 := OwnT.base' hem0
  clear ha hb
  go_enter Tryz.func40, Tryz.ntmps40
  go_wp2_with (at_builtin; refine wpList_append_terms _ rfl _ _ 30 rfl w.heap.size 39 i0 Tryz.underlying30 hi0 hz0 hz1 hz2 _ [] (tb a) rfl hem0 w.heap.size na ca A rfl hat h63 h64 hs0 ?_; intro v1 w1 hown1 hgr; have hB1 := hal0.grown hgr hs0 hq0; clear hgr)
  clear hal0 hem0 hat h63 h64 hs0 hq0
  go_loopw [7, 8] (fun o iv wr => ∃ (ov : Value) (j : Nat), ov = o ∧ iv = .int .i64 (j : Int) ∧ j ≤ nb ∧ OwnT 39 wr w.heap.size ov (tb (a ++ timesL (b.take j) k)) ∧ Below w.heap.size w wr) (fun _ iv _ => nb - (intOf iv).toNat)
  case atStart => exact ⟨_, 0, rfl, rfl, Nat.zero_le _, by simpa [timesL, List.take_zero] using hown1, hB1⟩
  case round =>
    clear hown1 hB1
    obtain ⟨ov, j, rfl, rfl, hj, hown, hbel⟩ := hrel
    have hwg := hbel.size
    by_cases hjn : j < nb
    · obtain ⟨ad, t, rfl, hab, htk, hc1, hc2⟩ := (HHB.out.below hbel).at_ hjn
      obtain ⟨p, hp, rfl⟩ := tb_get htk
      rw [add_next] at hc2
      have hpr := HRB.out p (List.mem_of_getElem? hp)
      have hsn : a ++ timesL (b.take (j + 1)) k = (a ++ timesL (b.take j) k) ++ [(p.1 * k, p.2)] := by
        unfold timesL
        rw [List.take_add_one, hp]
        simp
      have hol : (tb (a ++ timesL (b.take j) k)).length ≤ 1000 := by
        rw [tb_length]; unfold timesL
        rw [List.length_append, List.length_map, List.length_take]
        have := HLA.out
        omega
      have hst : tb (a ++ timesL (b.take (j + 1)) k) = tb (a ++ timesL (b.take j) k) ++ [(rtxt (p.1 * k), txt (p.2 : Int))] := by rw [hsn, tb_snoc]
      have HST := Lib.hid hst
      have hC : ∀ w', Below w.heap.size w w' → w'.cell? (ad.add (j * 2)) = some (.string (rtxt p.1)) ∧ w'.cell? ⟨(ad.add (j * 2)).block, (ad.add (j * 2)).off + 1, none⟩ = some (.string (txt (p.2 : Int))) := by
        intro w' hb'
        obtain ⟨ad', t', e1, _, htk', d1, d2⟩ := (HHB.out.below hb').at_ hjn
        cases e1
        rw [htk] at htk'
        cases htk'
        rw [add_next] at d2
        exact ⟨d1, d2⟩
      have hct := HTIM.out p.1 hpr
      have HC := Lib.hid hC
      clear hC htk hp hsn hst hc1 hc2
      obtain ⟨O, hO⟩ : ∃ O, tb (a ++ timesL (b.take j) k) = O := ⟨_, rfl⟩
      obtain ⟨FP, hFP⟩ : ∃ F, rtxt p.1 = F := ⟨_, rfl⟩
      obtain ⟨FK, hFK⟩ : ∃ F, rtxt (p.1 * k) = F := ⟨_, rfl⟩
      obtain ⟨GP, hGP⟩ : ∃ F, txt (p.2 : Int) = F := ⟨_, rfl⟩
      rw [hO, hFK, hGP] at HST
      rw [hO] at hown hol
      rw [hFP, hGP] at HC
      rw [hFP, hFK] at hct
      clear hO hFP hFK hGP
      go_wp2_with fail
      have hBd : Below w.heap.size w wr.drew := hbel.drew
      have hgd : w.heap.size ≤ wr.drew.heap.size := hBd.size
      have hwdd : Wd wr.drew := hW.below hBd
      have hownd : OwnT 39 wr.drew w.heap.size ov O := hown
      obtain ⟨z1, z2⟩ := HC.out _ hBd
      have hc1 := hct wr.drew hwdd
      obtain ⟨hm1, hn1⟩ := len_ok (show O.length ≤ 200000 by omega)
      clear hct
      go_region_held3 (fun w' : World => w'.cell? (ad.add (j * 2)) = some (.string FP) ∧ w'.cell? ⟨(ad.add (j * 2)).block, (ad.add (j * 2)).off + 1, none⟩ = some (.string GP)) (first | exact ⟨by assumption, by assumption⟩ | go_keep) (first
        | (with_reducible refine Calls.mono hc1 ?_; rintro e wz ⟨rfl, hb5⟩; have hBwz := hBd.trans (hb5.mono hgd); have y := HC.out _ hBwz; have y1 := y.1; have y2 := y.2; have hownz := hownd.keep hb5 (Nat.le_refl _); have ha_p := hBwz.alloc hBwz.size (.cells #[.string FK, .string GP] 39); have hs_p := ha_p.size; have hp_p := hownz.alloc (.cells #[.string FK, .string GP] 39); have hq_p := OwnT.base' hp_p; have hc_p := new_cell0 wz (.string FK) (.string GP) 39; have hd_p := new_cell1 wz (.string FK) (.string GP) 39)
        | (refine step_append_term _ rfl _ _ 30 rfl w.heap.size 39 i0 Tryz.underlying30 hi0 hz0 hz1 hz2 _ O rfl hp_p wz.heap.size 1 (FK, GP) rfl hc_p hd_p hm1 hn1 hs_p ?_; intro v2 w2 hown2 hgr; have hBw2 := ha_p.grown hgr hs_p hq_p; have x := HC.out _ hBw2; have x1 := x.1; have x2 := x.2))
      all_goals go_wp2_with fail
      all_goals exact ⟨⟨_, j + 1, rfl, by congr 1, hjn, by rw [HST.out]; exact hown2, hBw2⟩, by simp [intOf]; omega⟩
    · have hje : j = nb := by omega
      subst hje
      have hte : b.take j = b := List.take_of_length_le (by have := HLB.out; omega)
      have hwn : OwnT 39 wr w.heap.size ov (tb (joinAll a b k)) := by rw [hte] at hown; exact hown
      obtain ⟨AA, cA, rfl, hT⟩ := hwn.form
      clear hown hte hwn HTIM HRB HHB hwg
      have hres : joinL a b k = outTo (joinAll a b k) (na + j) := by unfold joinL; rw [HALD.out]
      have htl : (tb (joinAll a b k)).length = na + j := by rw [tb_length]; exact HALD.out
      rw [htl] at hT ⊢
      have HRES := Lib.hid hres
      obtain ⟨all, hAll⟩ : ∃ l, joinAll a b k = l := ⟨_, rfl⟩
      rw [hAll] at hT HALL HALD HRES
      obtain ⟨N, hN⟩ : ∃ N, na + j = N := ⟨_, rfl⟩
      rw [hN] at hT HALD HRES hln ⊢
      clear hres htl hAll hN HLA HLB hjn hj
      have hWr : Wd wr := hW.below hbel
      have HT := Lib.hid hT; clear hT
      have HBEL := Lib.hid hbel
      rename World => W2
      go_wp2_with fail
      go_loopw [9, 10] (fun o iv wx => ∃ (A1 : Option Addr) (n1 c1 i : Nat), Value.slice A1 n1 c1 = o ∧ iv = .int .i64 (i : Int) ∧ i ≤ N ∧ n1 = (outTo all i).length ∧ IsT wx wx.heap.size A1 n1 c1 (tb (outTo all i)) ∧ Below W2.heap.size W2 wx) (fun _ iv _ => N - (intOf iv).toNat)
      case atStart => exact ⟨none, 0, 0, 0, rfl, rfl, Nat.zero_le _, rfl, IsT.nil _ _ _ _, Below.refl _ _⟩
      case round =>
        obtain ⟨A1, n1, c1, i, rfl, rfl, hi, hn1, hT1, hbx⟩ := hrel
        rename World => wx
        by_cases hiN : i < N
        · obtain ⟨ad, t, rfl, hab, _, _, _⟩ := HT.out.at_ hiN
          have hcell : ∀ (j : Nat) (p : Rat × Nat), all[j]? = some p → ∀ w', Below W2.heap.size W2 w' → w'.cell? (ad.add (j * 2)) = some (.string (rtxt p.1)) ∧ w'.cell? ⟨(ad.add (j * 2)).block, (ad.add (j * 2)).off + 1, none⟩ = some (.string (txt (p.2 : Int))) := by
            intro j p hp w' hb'
            have hjl : j < N := by
              have := (List.getElem?_eq_some_iff.1 hp).1
              have := HALD.out
              omega
            obtain ⟨ad', t', e1, _, htk', d1, d2⟩ := (HT.out.below hb').at_ hjl
            cases e1
            obtain ⟨q, hq, rfl⟩ := tb_get htk'
            rw [hp] at hq
            cases hq
            rw [add_next] at d2
            exact ⟨d1, d2⟩
          have HCELL := Lib.hid hcell; clear hcell
          obtain ⟨pi, hpi⟩ : ∃ p, all[i]? = some p := ⟨all[i]'(by have := HALD.out; omega), List.getElem?_eq_getElem _⟩
          have hpim := List.mem_of_getElem? hpi
          have hri := HALL.out.one pi hpim
          have HPI := Lib.hid hpi; clear hpi
          have HT1 := Lib.hid hT1; clear hT1
          have HN1 := Lib.hid hn1; clear hn1
          obtain ⟨c1x, c2x⟩ := HCELL.out i pi HPI.out wx hbx
          obtain ⟨r, hr⟩ : ∃ r, pi.2 = r := ⟨_, rfl⟩
          rw [hr] at c2x hri
          have HR := Lib.hid hr
          have hmr : ∃ q ∈ all, q.2 = r := ⟨pi, hpim, hr⟩
          have HMR := Lib.hid hmr
          clear hr c1x hpim hmr
          go_wp2_with fail
          clear c2x
          go_loopw [11, 12, 13] (fun lv fv nv wy => ∃ (m : Nat) (f : Bool) (j : Nat), Value.string (txt (m : Int)) = lv ∧ fv = .bool f ∧ nv = .int .i64 (j : Int) ∧ j ≤ N ∧ LeastSt all i r j m f ∧ Below wx.heap.size wx wy) (fun _ _ nv _ => N - (intOf nv).toNat)
          case atStart => exact ⟨r, true, 0, rfl, rfl, rfl, Nat.zero_le _, ⟨rfl, rfl⟩, Below.refl _ _⟩
          case round =>
            obtain ⟨m, f, j, rfl, rfl, rfl, hj, hls, hby⟩ := hrel
            rename World => wy
            obtain ⟨hlm, hff⟩ := hls
            have hbry : Below W2.heap.size W2 wy := hbx.trans (hby.mono hbx.size)
            have hWy : Wd wy := hWr.below hbry
            obtain ⟨qm, hqm, hqe⟩ := leastTo_mem HMR.out j
            have hmd := HALL.out.one qm hqm
            rw [hqe, hlm] at hmd
            have hmq : ∃ q ∈ all, q.2 = m := ⟨qm, hqm, by rw [hqe, hlm]⟩
            have HMQ := Lib.hid hmq
            clear hqm hqe hmq
            by_cases hjN : j < N
            · obtain ⟨pj, hpj⟩ : ∃ p, all[j]? = some p := ⟨all[j]'(by have := HALD.out; omega), List.getElem?_eq_getElem _⟩
              have hrj := HALL.out.one pj (List.mem_of_getElem? hpj)
              have hl' : leastTo all r (j + 1) = if Sq (pj.2 * r) ∧ pj.2 < m then pj.2 else m := by simp only [leastTo, hpj, hlm]
              have hf' : firstTo all i r (j + 1) = if Sq (pj.2 * r) then f && decide (i ≤ j) else f := by simp only [firstTo, hpj, hff]
              have hJ := fun w' hb' => (HCELL.out j pj hpj w' hb').2
              have hI := fun w' hb' => (HCELL.out i pi HPI.out w' hb').2
              rw [HR.out] at hI
              have hal := fun w hW => refAlike_any pj.2 r (hrj.2.1.mono (by decide)) (hri.2.1.mono (by decide)) w hW
              have hcm := fun w hW => refCompare_any (pj.2 : Int) (m : Int) (hrj.2.1.mono (by decide)) (hmd.2.1.mono (by decide)) w hW
              obtain ⟨rj, hre⟩ : ∃ r, pj.2 = r := ⟨_, rfl⟩
              rw [hre] at hl' hf' hal hcm hJ
              have HJ := Lib.hid hJ
              have HI := Lib.hid hI
              clear hJ hI hlm hff hpj hrj hre
              have hBd : Below W2.heap.size W2 wy.drew := hbry.drew
              have hxd : Below wx.heap.size wx wy.drew := hby.drew
              have hwdd : Wd wy.drew := hWy.drew
              have hgd := hBd.size
              have hgx := hxd.size
              have s1 := HJ.out _ hBd
              have s2 := HI.out _ hBd
              obtain ⟨Z, hZ⟩ : ∃ Z, txt ((isqrt (rj * r) : Nat) : Int) = Z := ⟨_, rfl⟩
              rw [hZ] at hal
              clear hZ
              by_cases hsq : Sq (rj * r)
              · have hd : decide (isqrt (rj * r) * isqrt (rj * r) = rj * r) = true := decide_eq_true hsq
                rw [hd] at hal
                rw [if_pos hsq] at hf'
                have a1 := hal wy.drew hwdd
                clear hal hd
                by_cases hlt : rj < m
                · rw [if_pos ⟨hsq, hlt⟩] at hl'
                  have HL2 := Lib.hid hl'
                  have hsg : ((rj : Int) - (m : Int)).sign < 0 := (sign_lt rj m).2 hlt
                  obtain ⟨z, hz⟩ : ∃ z, ((rj : Int) - (m : Int)).sign = z := ⟨_, rfl⟩
                  rw [hz] at hcm hsg
                  have hdz : decide (z < 0) = true := decide_eq_true hsg
                  clear hl' hz hlt hsg
                  cases f with
                  | false =>
                    have HF2 := Lib.hid (hf'.trans (Bool.false_and _))
                    clear hf' hsq
                    go_wp2_with fail
                    go_region_held3 (fun w' : World => w'.cell? ⟨(ad.add (j * 2)).block, (ad.add (j * 2)).off + 1, none⟩ = some (.string (txt (rj : Int))) ∧ w'.cell? ⟨(ad.add (i * 2)).block, (ad.add (i * 2)).off + 1, none⟩ = some (.string (txt (r : Int)))) (first | exact ⟨by assumption, by assumption⟩) (first
                      | (with_reducible refine Calls.mono a1 ?_; rintro e wz ⟨rfl, hb5⟩; have hBz := hBd.trans (hb5.mono hgd); have hxz := hxd.trans (hb5.mono hgx); have t1 := HJ.out _ hBz; have t2 := HI.out _ hBz; have a2 := hcm _ (hWr.below hBz)))
                    rename_i hHeld
                    clear s1 s2 a1 hb5 hHeld t2
                    go_wp2_with (first
                      | (with_reducible refine Calls.mono a2 ?_; rintro e wq ⟨rfl, hb6⟩; have hxq := hxz.trans (hb6.mono hxz.size); have hBq := hBz.trans (hb6.mono hBz.size); have t3 := HJ.out _ hBq))
                    exact ⟨⟨rj, false, j + 1, rfl, rfl, by congr 1, hjN, ⟨HL2.out, HF2.out⟩, hxq⟩, by simp [intOf]; omega⟩
                  | true =>
                    rw [Bool.true_and] at hf'
                    by_cases hij : i ≤ j
                    · rw [decide_eq_true hij] at hf'
                      have HF2 := Lib.hid hf'
                      have hij2 : decide (i ≤ j) = true := decide_eq_true hij
                      clear hf' hsq
                      go_wp2_with fail
                      go_region_held3 (fun w' : World => w'.cell? ⟨(ad.add (j * 2)).block, (ad.add (j * 2)).off + 1, none⟩ = some (.string (txt (rj : Int))) ∧ w'.cell? ⟨(ad.add (i * 2)).block, (ad.add (i * 2)).off + 1, none⟩ = some (.string (txt (r : Int)))) (first | exact ⟨by assumption, by assumption⟩) (first
                        | (with_reducible refine Calls.mono a1 ?_; rintro e wz ⟨rfl, hb5⟩; have hBz := hBd.trans (hb5.mono hgd); have hxz := hxd.trans (hb5.mono hgx); have t1 := HJ.out _ hBz; have t2 := HI.out _ hBz; have a2 := hcm _ (hWr.below hBz)))
                      rename_i hHeld
                      clear s1 s2 a1 hb5 hHeld t2
                      go_wp2_with (first
                        | (with_reducible refine Calls.mono a2 ?_; rintro e wq ⟨rfl, hb6⟩; have hxq := hxz.trans (hb6.mono hxz.size); have hBq := hBz.trans (hb6.mono hBz.size); have t3 := HJ.out _ hBq))
                      exact ⟨⟨rj, true, j + 1, rfl, rfl, by congr 1, hjN, ⟨HL2.out, HF2.out⟩, hxq⟩, by simp [intOf]; omega⟩
                    · rw [decide_eq_false hij] at hf'
                      have HF2 := Lib.hid hf'
                      have hij2 : decide (i ≤ j) = false := decide_eq_false hij
                      clear hf' hsq
                      go_wp2_with fail
                      go_region_held3 (fun w' : World => w'.cell? ⟨(ad.add (j * 2)).block, (ad.add (j * 2)).off + 1, none⟩ = some (.string (txt (rj : Int))) ∧ w'.cell? ⟨(ad.add (i * 2)).block, (ad.add (i * 2)).off + 1, none⟩ = some (.string (txt (r : Int)))) (first | exact ⟨by assumption, by assumption⟩) (first
                        | (with_reducible refine Calls.mono a1 ?_; rintro e wz ⟨rfl, hb5⟩; have hBz := hBd.trans (hb5.mono hgd); have hxz := hxd.trans (hb5.mono hgx); have t1 := HJ.out _ hBz; have t2 := HI.out _ hBz; have a2 := hcm _ (hWr.below hBz)))
                      rename_i hHeld
                      clear s1 s2 a1 hb5 hHeld t2
                      go_wp2_with (first
                        | (with_reducible refine Calls.mono a2 ?_; rintro e wq ⟨rfl, hb6⟩; have hxq := hxz.trans (hb6.mono hxz.size); have hBq := hBz.trans (hb6.mono hBz.size); have t3 := HJ.out _ hBq))
                      exact ⟨⟨rj, false, j + 1, rfl, rfl, by congr 1, hjN, ⟨HL2.out, HF2.out⟩, hxq⟩, by simp [intOf]; omega⟩
                · rw [if_neg (fun h => hlt h.2)] at hl'
                  have HL2 := Lib.hid hl'
                  have hsg : ¬ ((rj : Int) - (m : Int)).sign < 0 := fun h => hlt ((sign_lt rj m).1 h)
                  obtain ⟨z, hz⟩ : ∃ z, ((rj : Int) - (m : Int)).sign = z := ⟨_, rfl⟩
                  rw [hz] at hcm hsg
                  have hdz : decide (z < 0) = false := decide_eq_false hsg
                  clear hl' hz hlt hsg
                  cases f with
                  | false =>
                    have HF2 := Lib.hid (hf'.trans (Bool.false_and _))
                    clear hf' hsq
                    go_wp2_with fail
                    go_region_held3 (fun w' : World => w'.cell? ⟨(ad.add (j * 2)).block, (ad.add (j * 2)).off + 1, none⟩ = some (.string (txt (rj : Int))) ∧ w'.cell? ⟨(ad.add (i * 2)).block, (ad.add (i * 2)).off + 1, none⟩ = some (.string (txt (r : Int)))) (first | exact ⟨by assumption, by assumption⟩) (first
                      | (with_reducible refine Calls.mono a1 ?_; rintro e wz ⟨rfl, hb5⟩; have hBz := hBd.trans (hb5.mono hgd); have hxz := hxd.trans (hb5.mono hgx); have t1 := HJ.out _ hBz; have t2 := HI.out _ hBz; have a2 := hcm _ (hWr.below hBz)))
                    rename_i hHeld
                    clear s1 s2 a1 hb5 hHeld t2
                    go_wp2_with (first
                      | (with_reducible refine Calls.mono a2 ?_; rintro e wq ⟨rfl, hb6⟩; have hxq := hxz.trans (hb6.mono hxz.size); have hBq := hBz.trans (hb6.mono hBz.size); have t3 := HJ.out _ hBq))
                    exact ⟨⟨m, false, j + 1, rfl, rfl, by congr 1, hjN, ⟨HL2.out, HF2.out⟩, hxq⟩, by simp [intOf]; omega⟩
                  | true =>
                    rw [Bool.true_and] at hf'
                    by_cases hij : i ≤ j
                    · rw [decide_eq_true hij] at hf'
                      have HF2 := Lib.hid hf'
                      have hij2 : decide (i ≤ j) = true := decide_eq_true hij
                      clear hf' hsq
                      go_wp2_with fail
                      go_region_held3 (fun w' : World => w'.cell? ⟨(ad.add (j * 2)).block, (ad.add (j * 2)).off + 1, none⟩ = some (.string (txt (rj : Int))) ∧ w'.cell? ⟨(ad.add (i * 2)).block, (ad.add (i * 2)).off + 1, none⟩ = some (.string (txt (r : Int)))) (first | exact ⟨by assumption, by assumption⟩) (first
                        | (with_reducible refine Calls.mono a1 ?_; rintro e wz ⟨rfl, hb5⟩; have hBz := hBd.trans (hb5.mono hgd); have hxz := hxd.trans (hb5.mono hgx); have t1 := HJ.out _ hBz; have t2 := HI.out _ hBz; have a2 := hcm _ (hWr.below hBz)))
                      rename_i hHeld
                      clear s1 s2 a1 hb5 hHeld t2
                      go_wp2_with (first
                        | (with_reducible refine Calls.mono a2 ?_; rintro e wq ⟨rfl, hb6⟩; have hxq := hxz.trans (hb6.mono hxz.size); have hBq := hBz.trans (hb6.mono hBz.size); have t3 := HJ.out _ hBq))
                      exact ⟨⟨m, true, j + 1, rfl, rfl, by congr 1, hjN, ⟨HL2.out, HF2.out⟩, hxq⟩, by simp [intOf]; omega⟩
                    · rw [decide_eq_false hij] at hf'
                      have HF2 := Lib.hid hf'
                      have hij2 : decide (i ≤ j) = false := decide_eq_false hij
                      clear hf' hsq
                      go_wp2_with fail
                      go_region_held3 (fun w' : World => w'.cell? ⟨(ad.add (j * 2)).block, (ad.add (j * 2)).off + 1, none⟩ = some (.string (txt (rj : Int))) ∧ w'.cell? ⟨(ad.add (i * 2)).block, (ad.add (i * 2)).off + 1, none⟩ = some (.string (txt (r : Int)))) (first | exact ⟨by assumption, by assumption⟩) (first
                        | (with_reducible refine Calls.mono a1 ?_; rintro e wz ⟨rfl, hb5⟩; have hBz := hBd.trans (hb5.mono hgd); have hxz := hxd.trans (hb5.mono hgx); have t1 := HJ.out _ hBz; have t2 := HI.out _ hBz; have a2 := hcm _ (hWr.below hBz)))
                      rename_i hHeld
                      clear s1 s2 a1 hb5 hHeld t2
                      go_wp2_with (first
                        | (with_reducible refine Calls.mono a2 ?_; rintro e wq ⟨rfl, hb6⟩; have hxq := hxz.trans (hb6.mono hxz.size); have hBq := hBz.trans (hb6.mono hBz.size); have t3 := HJ.out _ hBq))
                      exact ⟨⟨m, false, j + 1, rfl, rfl, by congr 1, hjN, ⟨HL2.out, HF2.out⟩, hxq⟩, by simp [intOf]; omega⟩
              · have hd : decide (isqrt (rj * r) * isqrt (rj * r) = rj * r) = false := decide_eq_false hsq
                rw [hd] at hal
                rw [if_neg hsq] at hf'
                rw [if_neg (fun h => hsq h.1)] at hl'
                have a1 := hal wy.drew hwdd
                have HL2 := Lib.hid hl'
                have HF2 := Lib.hid hf'
                clear hal hd hl' hf' hsq hcm
                go_wp2_with fail
                go_region_held3 (fun w' : World => w'.cell? ⟨(ad.add (j * 2)).block, (ad.add (j * 2)).off + 1, none⟩ = some (.string (txt (rj : Int))) ∧ w'.cell? ⟨(ad.add (i * 2)).block, (ad.add (i * 2)).off + 1, none⟩ = some (.string (txt (r : Int)))) (first | exact ⟨by assumption, by assumption⟩) (first
                  | (with_reducible refine Calls.mono a1 ?_; rintro e wz ⟨rfl, hb5⟩; have hBz := hBd.trans (hb5.mono hgd); have hxz := hxd.trans (hb5.mono hgx); have t1 := HJ.out _ hBz; have t2 := HI.out _ hBz))
                rename_i hHeld
                clear s1 s2 a1 hb5 hHeld t2
                go_wp2_with fail
                exact ⟨⟨m, f, j + 1, rfl, rfl, by congr 1, hjN, ⟨HL2.out, HF2.out⟩, hxz⟩, by simp [intOf]; omega⟩
            · have hje : j = N := by omega
              subst hje
              have hout : outTo all (i + 1) = if f = true ∧ (sumTo all m j).num ≠ 0 then insL (outTo all i) (sumTo all m j, m) else outTo all i := by
                simp only [outTo, HPI.out]
                rw [HALD.out, HR.out, hlm, hff]
              have HTY := Lib.hid (HT1.out.to hby (Nat.le_refl _))
              have HOUT := Lib.hid hout
              clear hout hlm hff hjN hj
              cases f with
              | false =>
                go_wp2_with fail
                exact ⟨⟨A1, n1, c1, i + 1, rfl, by congr 1, hiN, by rw [HOUT.out, if_neg (fun h => by cases h.1)]; exact HN1.out, by rw [HOUT.out, if_neg (fun h => by cases h.1)]; exact HTY.out, hbry⟩, by simp [intOf]; omega⟩
              | true =>
                go_wp2_with fail
                go_loopw [16, 17] (fun sv nv wv => ∃ (q : Rat) (l : Nat), Value.string (rtxt q) = sv ∧ nv = .int .i64 (l : Int) ∧ l ≤ j ∧ sumTo all m l = q ∧ Below wy.heap.size wy wv) (fun _ nv _ => j - (intOf nv).toNat)
                case atStart => exact ⟨0, 0, by rw [rtxt_zero], rfl, Nat.zero_le _, rfl, Below.refl _ _⟩
                case round =>
                  obtain ⟨q, l, rfl, rfl, hl, hsum, hbv⟩ := hrel
                  rename World => wv
                  have hbrv : Below W2.heap.size W2 wv := hbry.trans (hbv.mono hbry.size)
                  have hWv : Wd wv := hWr.below hbrv
                  obtain ⟨qm, hqm, hqe⟩ := HMQ.out
                  have hrq : RS q := by
                    have := HALL.out.sum qm hqm l
                    rw [hqe, hsum] at this; exact this
                  have HSUM := Lib.hid hsum; clear hsum
                  by_cases hlN : l < j
                  · obtain ⟨pj, hpj⟩ : ∃ p, all[l]? = some p := ⟨all[l]'(by have := HALD.out; omega), List.getElem?_eq_getElem _⟩
                    have hpjm := List.mem_of_getElem? hpj
                    have hrj := HALL.out.one pj hpjm
                    have hs' : sumTo all m (l + 1) = if Sq (pj.2 * m) then q + pj.1 * facOf pj.2 m else q := by simp only [sumTo, hpj, HSUM.out]
                    have hfc := HALL.out.fac pj hpjm qm hqm
                    have hsm := HALL.out.sum qm hqm (l + 1)
                    rw [hqe] at hfc hsm
                    have hJ := fun w' hb' => (HCELL.out l pj hpj w' hb')
                    have hal := fun w hW => refAlike_any pj.2 m (hrj.2.1.mono (by decide)) (hmd.2.1.mono (by decide)) w hW
                    have hzd : DL ((isqrt (pj.2 * m) : Nat) : Int) 200 := by
                      apply isqrt_dl (k := 200) _ (by decide)
                      rw [Int.natCast_mul]
                      exact hrj.2.1.mul hmd.2.1 (by decide)
                    have hmk := fun w hW => refMake_any ((isqrt (pj.2 * m) : Nat) : Int) (m : Int) (by omega) (hzd.mono (by decide)) (hmd.2.1.mono (by decide)) w hW
                    have hfe : Rat.divInt ((isqrt (pj.2 * m) : Nat) : Int) (m : Int) = facOf pj.2 m := rfl
                    rw [hfe] at hmk
                    have htm := fun (h1 : RS (facOf pj.2 m)) w hW => refTimes_any pj.1 (facOf pj.2 m) hrj.1 h1 w hW
                    have hpl := fun (h1 : RS (pj.1 * facOf pj.2 m)) w hW => refPlus_any q (pj.1 * facOf pj.2 m) hrq h1 w hW
                    have HJ := Lib.hid hJ
                    have s1 := (HJ.out _ hbrv).2
                    clear hJ hqe hqm hpjm hpj hfe hzd
                    by_cases hsq : Sq (pj.2 * m)
                    · have hd : decide (isqrt (pj.2 * m) * isqrt (pj.2 * m) = pj.2 * m) = true := decide_eq_true hsq
                      rw [hd] at hal
                      rw [if_pos hsq] at hs'
                      obtain ⟨hf1, hf2⟩ := hfc hsq
                      replace htm := htm hf1
                      replace hpl := hpl hf2
                      obtain ⟨FT, hFT⟩ : ∃ F, rtxt (facOf pj.2 m) = F := ⟨_, rfl⟩
                      obtain ⟨PT, hPT⟩ : ∃ F, rtxt (pj.1 * facOf pj.2 m) = F := ⟨_, rfl⟩
                      obtain ⟨QT, hQT⟩ : ∃ F, rtxt (q + pj.1 * facOf pj.2 m) = F := ⟨_, rfl⟩
                      obtain ⟨FP, hFP⟩ : ∃ F, rtxt pj.1 = F := ⟨_, rfl⟩
                      obtain ⟨Q, hQ⟩ : ∃ F, rtxt q = F := ⟨_, rfl⟩
                      obtain ⟨GJ, hGJ⟩ : ∃ F, txt (pj.2 : Int) = F := ⟨_, rfl⟩
                      obtain ⟨GM, hGM⟩ : ∃ F, txt (m : Int) = F := ⟨_, rfl⟩
                      obtain ⟨Z, hZ⟩ : ∃ F, txt ((isqrt (pj.2 * m) : Nat) : Int) = F := ⟨_, rfl⟩
                      rw [hGJ, hGM, hZ] at hal
                      rw [hZ, hGM, hFT] at hmk
                      rw [hFP, hFT, hPT] at htm
                      rw [hQ, hPT, hQT] at hpl
                      rw [hGJ] at s1
                      rw [hFP, hGJ] at HJ
                      rw [hQ, hGM]
                      have HS := Lib.hid hs'
                      have HQT := Lib.hid hQT
                      clear hd hs' hsq hf1 hf2 hfc hFT hPT hQT hFP hQ hGJ hGM hZ hsm
                      have a1 := hal wv hWv
                      clear hal
                      go_wp2_with fail
                      with_reducible refine Calls.mono a1 ?_
                      rintro e wa ⟨rfl, hb5⟩
                      have hBa := hbrv.trans (hb5.mono hbrv.size)
                      have hva := hbv.trans (hb5.mono hbv.size)
                      clear s1 a1 hb5
                      have hBd : Below W2.heap.size W2 wa.drew := hBa.drew
                      have hvd : Below wy.heap.size wy wa.drew := hva.drew
                      have hgd := hBd.size
                      have hgv := hvd.size
                      have s1 := (HJ.out _ hBd).1
                      have a1 := hmk wa.drew (hWr.below hBd)
                      clear hmk hBa hva
                      go_wp2_with fail
                      go_region_held3 (fun w' : World => w'.cell? (ad.add (l * 2)) = some (.string FP)) (first | assumption) (first
                        | (with_reducible refine Calls.mono a1 ?_; rintro e wb ⟨rfl, hb6⟩; have hBb := hBd.trans (hb6.mono hgd); have hvb := hvd.trans (hb6.mono hgv); have t1 := (HJ.out _ hBb).1; have a2 := htm wb (hWr.below hBb))
                        | (with_reducible refine Calls.mono a2 ?_; rintro e wc ⟨rfl, hb7⟩; have hBc := hBb.trans (hb7.mono hBb.size); have hvc := hvb.trans (hb7.mono hvb.size); have t2 := (HJ.out _ hBc).1; have a3 := hpl wc (hWr.below hBc))
                        | (with_reducible refine Calls.mono a3 ?_; rintro e we ⟨rfl, hb8⟩; have hBe := hBc.trans (hb8.mono hBc.size); have hve := hvc.trans (hb8.mono hvc.size); have t3 := (HJ.out _ hBe).1))
                      all_goals go_wp2_with fail
                      all_goals exact ⟨⟨_, l + 1, by rw [HQT.out], by congr 1, hlN, HS.out, hve⟩, by simp [intOf]; omega⟩
                    · have hd : decide (isqrt (pj.2 * m) * isqrt (pj.2 * m) = pj.2 * m) = false := decide_eq_false hsq
                      rw [hd] at hal
                      rw [if_neg hsq] at hs'
                      obtain ⟨GJ, hGJ⟩ : ∃ F, txt (pj.2 : Int) = F := ⟨_, rfl⟩
                      obtain ⟨GM, hGM⟩ : ∃ F, txt (m : Int) = F := ⟨_, rfl⟩
                      obtain ⟨Z, hZ⟩ : ∃ F, txt ((isqrt (pj.2 * m) : Nat) : Int) = F := ⟨_, rfl⟩
                      rw [hGJ, hGM, hZ] at hal
                      rw [hGJ] at s1
                      rw [hGM]
                      have HS := Lib.hid hs'
                      clear hd hs' hsq hfc hGJ hGM hZ hsm hmk htm hpl
                      have a1 := hal wv hWv
                      clear hal
                      go_wp2_with fail
                      with_reducible refine Calls.mono a1 ?_
                      rintro e wa ⟨rfl, hb5⟩
                      have hva := hbv.trans (hb5.mono hbv.size)
                      clear s1 a1 hb5
                      go_wp2_with fail
                      exact ⟨⟨_, l + 1, rfl, by congr 1, hlN, HS.out, hva⟩, by simp [intOf]; omega⟩
                  · have hle : l = j := by omega
                    subst hle
                    have hz := rtxt_is_zero q
                    have hTv := HTY.out.to hbv (Nat.le_refl _)
                    have HS := HSUM.out
                    have hlen1 := outTo_le all i
                    by_cases h0 : q.num = 0
                    · rw [decide_eq_true h0] at hz
                      have ho : outTo all (i + 1) = outTo all i := by rw [HOUT.out, HS, if_neg (fun h => h.2 h0)]
                      have HO := Lib.hid ho
                      have HTV := Lib.hid hTv
                      clear ho hTv h0 HS
                      obtain ⟨Q, hQ⟩ : ∃ F, rtxt q = F := ⟨_, rfl⟩
                      rw [hQ] at hz ⊢
                      clear hQ
                      go_wp2_with fail
                      exact ⟨⟨A1, n1, c1, i + 1, rfl, by congr 1, hiN, by rw [HO.out]; exact HN1.out, by rw [HO.out]; exact HTV.out, hbrv⟩, by simp [intOf]; omega⟩
                    · rw [decide_eq_false h0] at hz
                      have ho : outTo all (i + 1) = insL (outTo all i) (q, m) := by rw [HOUT.out, HS, if_pos ⟨by trivial, h0⟩]
                      have HO := Lib.hid ho
                      have hins := insert_any A1 n1 c1 (outTo all i) (q, m) wv hWv hTv (by rw [HN1.out]; omega) hmd.2.1 (outTo_dl HALL.out i)
                      clear ho hTv h0 HS
                      obtain ⟨RR, hRR⟩ : ∃ R, insL (outTo all i) (q, m) = R := ⟨_, rfl⟩
                      rw [hRR] at hins HO
                      obtain ⟨Q, hQ⟩ : ∃ F, rtxt q = F := ⟨_, rfl⟩
                      obtain ⟨GM, hGM⟩ : ∃ F, txt (m : Int) = F := ⟨_, rfl⟩
                      simp only at hins
                      rw [hQ, hGM] at hins
                      rw [hQ] at hz
                      rw [hQ, hGM]
                      clear hQ hGM hRR
                      go_wp2_with fail
                      with_reducible refine Calls.mono hins ?_
                      rintro e wn ⟨⟨A5, n5, c5, rfl, hn5, hT5⟩, hb9⟩
                      have hBn := hbrv.trans (hb9.mono hbrv.size)
                      have HN5 := Lib.hid hn5
                      have HT5 := Lib.hid hT5
                      clear hn5 hT5 hins hb9
                      go_wp2_with fail
                      exact ⟨⟨A5, n5, c5, i + 1, rfl, by congr 1, hiN, by rw [HO.out]; exact HN5.out, by rw [HO.out]; exact HT5.out, hBn⟩, by simp [intOf]; omega⟩
        · have hie : i = N := by omega
          subst hie
          have HT1 := Lib.hid hT1
          have HN1 := Lib.hid hn1
          clear hT1 hn1
          go_wp2_with fail
          go_ret
          exact ⟨⟨A1, n1, c1, rfl, by rw [HRES.out]; exact HN1.out, by rw [HRES.out]; exact HT1.out⟩, HBEL.out.trans (hbx.mono HBEL.out.size)⟩
end Go.Proofs.YtgfgpepdkffhbaaGreatDoor.Kl
