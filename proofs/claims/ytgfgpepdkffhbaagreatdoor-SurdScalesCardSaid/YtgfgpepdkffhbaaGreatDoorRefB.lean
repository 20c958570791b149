/- klipperef01: times. klipperef01: Add, Sub, Compare, Mul. klipperef01: Mul, Power. klipperef01: parts, division piece by piece. -/
import Derived.Test.YtgfgpepdkffhbaaGreatDoorRefA
import Derived.StillTailTactics
namespace Go.Proofs.YtgfgpepdkffhbaaGreatDoor.Kl
open Go.RowKit Go.Shelf
set_option linter.unusedVariables false
set_option linter.unusedSimpArgs false

/-- times behind i rows, and j products with a in the row at hand. -/
structure TimInv (ps qs : List Nat) (i j a : Nat) (zs : List Int) : Prop where
  len : zs.length = ps.length + qs.length
  eq : valZ zs = ((val 10000 (ps.take i) * val 10000 qs + 10000 ^ i * (a * val 10000 (qs.take j)) : Nat) : Int)
  all : ∀ t z, zs[t]? = some z → 0 ≤ z ∧ z ≤ (if t < i + j then (i : Int) + 1 else (i : Int)) * 100000000

theorem valZ_zeros (n : Nat) : valZ (List.replicate n 0) = 0 := by
  induction n with
  | zero => rfl
  | succ n ih => rw [List.replicate_succ, valZ, ih]; rfl

theorem TimInv.zero (ps qs : List Nat) : TimInv ps qs 0 0 0 (List.replicate (ps.length + qs.length) 0) := by
  refine ⟨by simp, by rw [valZ_zeros]; simp [val], fun t z h => ?_⟩
  have := List.eq_of_mem_replicate (List.mem_of_getElem? h)
  subst this; simp
theorem TimInv.row {ps qs : List Nat} {i a a' : Nat} {zs : List Int} (h : TimInv ps qs i 0 a zs) : TimInv ps qs i 0 a' zs := by
  obtain ⟨h1, h2, h3⟩ := h
  refine ⟨h1, ?_, h3⟩
  rw [h2]; simp [val]
theorem TimInv.cell {ps qs : List Nat} {i j a b : Nat} {zs : List Int} {z : Int} (h : TimInv ps qs i j a zs) (hb : qs[j]? = some b) (hz : zs[i + j]? = some z) (ha1 : a < 10000) (hb1 : b < 10000) : TimInv ps qs i (j + 1) a (zs.set (i + j) (z + (a : Int) * (b : Int))) := by
  obtain ⟨h1, h2, h3⟩ := h
  have hab : (a * b : Nat) ≤ 99980001 := Nat.mul_le_mul (Nat.le_of_lt_succ ha1) (Nat.le_of_lt_succ hb1)
  have hab' : ((a * b : Nat) : Int) = (a : Int) * (b : Int) := Int.natCast_mul a b
  refine ⟨by rw [List.length_set]; exact h1, ?_, fun t u hu => ?_⟩
  · rw [valZ_set hz, h2, List.take_add_one, hb, show (some b).toList = [b] from rfl, val_snoc, List.length_take]
    have hj := (List.getElem?_eq_some_iff.1 hb).1
    rw [show min j qs.length = j by omega, show z + (a : Int) * (b : Int) - z = ((a * b : Nat) : Int) by omega]
    rw [show (10000 : Int) ^ (i + j) * ((a * b : Nat) : Int) = ((10000 ^ i * (a * (10000 ^ j * b)) : Nat) : Int) by
      rw [show a * (10000 ^ j * b) = 10000 ^ j * (a * b) by rw [← Nat.mul_assoc, ← Nat.mul_assoc, Nat.mul_comm a], ← Nat.mul_assoc, ← Nat.pow_add, Int.natCast_mul (10000 ^ (i + j)) (a * b), Int.natCast_pow]; rfl]
    rw [← Int.natCast_add]
    congr 1
    rw [Nat.mul_add a, Nat.mul_add (10000 ^ i), Nat.add_assoc]
  · by_cases ht : t = i + j
    · subst ht
      have hlt := (List.getElem?_eq_some_iff.1 hz).1
      rw [List.getElem?_set_self hlt] at hu
      cases hu
      have := h3 _ _ hz
      rw [if_neg (by omega)] at this
      rw [if_pos (by omega)]
      omega
    · rw [List.getElem?_set_ne (fun e => ht e.symm)] at hu
      have := h3 _ _ hu
      by_cases h4 : t < i + j
      · rw [if_pos h4] at this; rw [if_pos (by omega)]; exact this
      · rw [if_neg h4] at this; rw [if_neg (by omega)]; exact this
theorem TimInv.next {ps qs : List Nat} {i a : Nat} {zs : List Int} (h : TimInv ps qs i qs.length a zs) (ha : ps[i]? = some a) : TimInv ps qs (i + 1) 0 0 zs := by
  obtain ⟨h1, h2, h3⟩ := h
  refine ⟨h1, ?_, fun t z hz => ?_⟩
  · rw [h2, List.take_length]
    congr 1
    have hi := (List.getElem?_eq_some_iff.1 ha).1
    rw [List.take_add_one, ha, show (some a).toList = [a] from rfl, val_snoc, List.length_take, show min i ps.length = i by omega]
    rw [Nat.add_mul, Nat.mul_assoc]
    simp
  · have := h3 t z hz
    by_cases h4 : t < i + qs.length
    · rw [if_pos h4] at this
      split <;> omega
    · rw [if_neg h4] at this
      split <;> omega

theorem ownZ_made {w : World} {base N : Nat} {e : TypeId} {v : Value} (h : w.ownsRow base e 1 v N (madeCells (Value.int IntKind.i64 0).cells (N * 1)).toList) : OwnZ e w base v (List.replicate N 0) := by
  rw [show (madeCells (Value.int IntKind.i64 0).cells (N * 1)).toList = zsv (List.replicate N 0) by
    rw [Nat.mul_one]; exact (toList_madeCells_one _ _).trans (by simp [zsv])] at h
  unfold OwnZ
  rw [List.length_replicate]; exact h

theorem wrap_idx {i j : Nat} (hi : i ≤ 100000) (hj : j ≤ 100000) : IntKind.i64.wrap ((i : Int) + (j : Int)) = (i : Int) + (j : Int) := IntWalk.i64_in _ ⟨by omega, by omega⟩
theorem wrap_prod {p : Int} (h0 : 0 ≤ p) (h1 : p ≤ 99980001) : IntKind.i64.wrap p = p := IntWalk.i64_in _ ⟨by omega, by omega⟩
theorem wrap_sum {z p : Int} (hz : 0 ≤ z) (hz1 : z ≤ 10000000000000) (h0 : 0 ≤ p) (h1 : p ≤ 99980001) : IntKind.i64.wrap (z + p) = z + p := IntWalk.i64_in _ ⟨by omega, by omega⟩

set_option maxRecDepth 100000 in
set_option maxHeartbeats 2000000 in
theorem timesR_any (A A' : Option Addr) (n n' c c' : Nat) (x y : Nat) (w : World) (h : IsU .i64 w w.heap.size A n c (pcs 10000 x)) (h' : IsU .i64 w w.heap.size A' n' c' (pcs 10000 y)) (hm : n ≤ 99000) (hm' : n' ≤ 99000) :
    Calls Tryz.prog 75 #[.slice A n c, .slice A' n' c'] w fun e w' => (∃ A1 n1 c1, e = .returned (.slice A1 n1 c1) ∧ IsU .i64 w' w'.heap.size A1 n1 c1 (pcs 10000 (x * y)) ∧ Fresh w.heap.size A1) ∧ Below w.heap.size w w' := by
  obtain ⟨i0, hi0, hz0, hz1, hz2⟩ := info_parts info_int
  have dx := dig_pcs (B := 10000) (by decide) x
  have dy := dig_pcs (B := 10000) (by decide) y
  have vx := val_pcs (B := 10000) (by decide) x
  have vy := val_pcs (B := 10000) (by decide) y
  have hpl := h.len
  have hql := h'.len
  have ht0 := TimInv.zero (pcs 10000 x) (pcs 10000 y)
  rw [hpl, hql] at ht0
  generalize pcs 10000 x = ps at *
  generalize pcs 10000 y = qs at *
  have DX := Lib.hid dx; clear dx
  have DY := Lib.hid dy; clear dy
  have VX := Lib.hid vx; clear vx
  have VY := Lib.hid vy; clear vy
  have HPL := Lib.hid hpl; clear hpl
  have HQL := Lib.hid hql; clear hql
  have HT0 := Lib.hid ht0; clear ht0
  go_enter Tryz.func75, Tryz.ntmps75
  go_wp2_with (at_make; refine wpList_make_full _ rfl _ _ 75 rfl w.heap.size 3 i0 (.int .i64 0) 1 Tryz.underlying75 hi0 hz0 hz1 .i64 .i64 _ _ (n + n') rfl rfl (by omega) (by omega) (by rw [hz2]; omega) (by unfold maxLen; omega) (Nat.le_refl _) ?_; intro w4 hown4 hgrow4)
  have hb4 : Below w.heap.size w w4 := (Below.refl _ _).grown hgrow4 (Nat.le_refl _) (by simp)
  have ho4 := ownZ_made hown4
  clear hown4 hgrow4
  go_loopw [6] (fun iv wr => ∃ (i : Nat) (zs : List Int), iv = .int .i64 (i : Int) ∧ OwnZ 3 wr w.heap.size (.slice (some ⟨w.heap.size, 0, none⟩) (n + n') (n + n')) zs ∧ RowKit.Hid (TimInv ps qs i 0 0 zs) ∧ i ≤ n ∧ Below w.heap.size w wr) (fun iv _ => n - (intOf iv).toNat)
  case atStart => exact ⟨0, _, rfl, ho4, HT0, Nat.zero_le _, hb4⟩
  case round =>
    obtain ⟨i, zs, rfl, hown, hinv, hi, hbel⟩ := hrel
    by_cases hin : i < n
    · obtain ⟨ada, a, rfl, hba, hpa, hca⟩ := h.at_ hin
      have ha10 : a < 10000 := DX.out a (List.mem_of_getElem? hpa)
      have hinv0 : RowKit.Hid (TimInv ps qs i 0 a zs) := hinv.out.row
      have HPA := Lib.hid hpa; clear hpa hinv hca
      go_upto_region 6 with fail
      go_loopw [7] (fun jv wr => ∃ (j : Nat) (zs : List Int), jv = .int .i64 (j : Int) ∧ OwnZ 3 wr w.heap.size (.slice (some ⟨w.heap.size, 0, none⟩) (n + n') (n + n')) zs ∧ RowKit.Hid (TimInv ps qs i j a zs) ∧ j ≤ n' ∧ Below w.heap.size w wr) (fun jv _ => n' - (intOf jv).toNat)
      case atStart => exact ⟨0, zs, rfl, hown, hinv0, Nat.zero_le _, hbel⟩
      case round =>
        obtain ⟨j, zs2, rfl, hown2, hinv2, hj, hbel2⟩ := hrel
        clear hown hinv0 hbel
        by_cases hjn : j < n'
        · obtain ⟨adb, b, rfl, hbb, hqb, hcb⟩ := (h'.below hbel2).at_ hjn
          obtain ⟨ada', a', e, hba', hpa', hca'⟩ := (h.below hbel2).at_ hin
          cases e
          obtain rfl : a' = a := by rw [HPA.out] at hpa'; exact (Option.some.inj hpa').symm
          have hb10 : b < 10000 := DY.out b (List.mem_of_getElem? hqb)
          have hlen2 := hinv2.out.len
          rw [HPL.out, HQL.out] at hlen2
          obtain ⟨g, cap, eg, hbg, hgw, hcells, hfroz, hset⟩ := hown2.pos (by omega)
          obtain rfl : g = w.heap.size := by
            injection eg with e1
            injection e1 with e1
            injection e1 with e1
            exact e1.symm
          clear eg
          obtain ⟨z, hz⟩ : ∃ z, zs2[i + j]? = some z := ⟨_, List.getElem?_eq_getElem (by omega)⟩
          have hst := hinv2.out.cell hqb hz ha10 hb10
          have hzb := hinv2.out.all _ _ hz
          rw [if_neg (by omega)] at hzb
          have hci := hcells (i + j) z hz
          have hfi := hfroz (i + j)
          have hab : (a' * b : Nat) ≤ 99980001 := Nat.mul_le_mul (Nat.le_of_lt_succ ha10) (Nat.le_of_lt_succ hb10)
          have hab' : ((a' * b : Nat) : Int) = (a' : Int) * (b : Int) := Int.natCast_mul a' b
          have hab2 : (a' : Int) * (b : Int) ≤ 99980001 := by omega
          have hab3 : 0 ≤ (a' : Int) * (b : Int) := by omega
          have HSET := Lib.hid (hset (i + j) (z + (a' : Int) * (b : Int)))
          have HST := Lib.hid hst
          have hzt : z ≤ 10000000000000 := by omega
          have hi' : i ≤ 100000 := by omega
          have hj' : j ≤ 100000 := by omega
          have hw1 := wrap_prod hab3 hab2
          have hw2 := wrap_sum hzb.1 hzt hab3 hab2
          have hbs : Below w.heap.size w (wr.setCell ⟨w.heap.size, i + j, none⟩ (.int .i64 (z + (a' : Int) * (b : Int)))).drew := (hbel2.setCell (p := ⟨w.heap.size, i + j, none⟩) hbg _).drew
          have HBS := Lib.hid hbs
          clear hbs hst hset hcells hfroz hinv2 hown2 hz hqb hpa' hab hab'
          go_wp2_with fail
          have u1 : IntKind.i64.wrap ((i : Int) + (j : Int)) = (i : Int) + (j : Int) := wrap_idx hi' hj'
          have u2 : (i : Int) + (j : Int) < (n : Int) + (n' : Int) := by omega
          have u5 : 0 ≤ (i : Int) + (j : Int) := by omega
          have u6 : ((i : Int) + (j : Int)).toNat = i + j := by omega
          have u7 : (i : Int) < (n : Int) := by omega
          have u8 : (j : Int) < (n' : Int) := by omega
          have u3 : IntKind.i64.wrap ((a' : Int) * (b : Int)) = (a' : Int) * (b : Int) := hw1
          have u4 : IntKind.i64.wrap (z + (a' : Int) * (b : Int)) = z + (a' : Int) * (b : Int) := hw2
          clear hw1 hw2
          go_still_tail 16, (by kernel_rfl)
          change wpList _ _ _ _ _ wr.drew
          have hci' : wr.drew.cell? ⟨w.heap.size, i + j, none⟩ = some (.int .i64 z) := hci
          have hfi' : wr.drew.frozen? ⟨w.heap.size, i + j, none⟩ = false := hfi
          go_wp2_with fail
          exact ⟨⟨j + 1, zs2.set (i + j) (z + (a' : Int) * (b : Int)), by congr 1, HSET.out.drew, Lib.hid HST.out, hjn, HBS.out⟩, by simp [intOf]; omega⟩
        · have hje : j = n' := by omega
          have hnx : RowKit.Hid (TimInv ps qs (i + 1) 0 0 zs2) := by
            have h1 := hinv2.out
            rw [hje, ← HQL.out] at h1
            exact h1.next HPA.out
          go_wp2_with fail
          exact ⟨⟨i + 1, zs2, by congr 1, hown2, hnx, hin, hbel2⟩, by simp [intOf]; omega⟩
    · have hie : i = n := by omega
      have hlen := hinv.out.len
      rw [HPL.out, HQL.out] at hlen
      have heq := hinv.out.eq
      rw [hie, ← HPL.out, List.take_length, List.take_zero] at heq
      have heq2 : valZ zs = ((x * y : Nat) : Int) := by
        rw [heq, VX.out, VY.out]; simp [val]
      have hall : ∀ z ∈ zs, -10000000000000 ≤ z ∧ z ≤ 10000000000000 := fun z hz => by
        obtain ⟨t, ht, e⟩ := List.getElem_of_mem hz
        have h1 := hinv.out.all t z (by rw [List.getElem?_eq_getElem ht, e])
        split at h1 <;> omega
      have hZ := hown.isZ hlen
      have hca := carry_any (some ⟨w.heap.size, 0, none⟩) (n + n') (n + n') zs (x * y) heq2 hall wr hZ (by omega)
      clear heq heq2 hall hinv
      go_wp2_with (with_reducible refine Calls.mono hca ?_; rintro e w2 ⟨⟨A1, n1, c1, rfl, hU, hfr⟩, hb2⟩)
      go_ret
      exact ⟨⟨A1, n1, c1, rfl, hU, hfr.mono hbel.size⟩, hbel.trans (hb2.mono hbel.size)⟩
end Go.Proofs.YtgfgpepdkffhbaaGreatDoor.Kl
namespace Go.Proofs.YtgfgpepdkffhbaaGreatDoor.Kl
open Go.RowKit Go.Shelf
set_option linter.unusedVariables false
set_option linter.unusedSimpArgs false

/-- a number of at most so many digits. -/
def DL (x : Int) (k : Nat) : Prop := (Lib.decDigits x.natAbs).length ≤ k
theorem DL.mono {x : Int} {k l : Nat} (h : DL x k) (hl : k ≤ l) : DL x l := Nat.le_trans h hl
theorem DL.lt {x : Int} {k : Nat} (h : DL x k) : x.natAbs < 10 ^ k := Nat.lt_of_lt_of_le (dec_lt _) (Nat.pow_le_pow_right (by decide) h)
theorem DL.of_lt {x : Int} {k : Nat} (h : x.natAbs < 10 ^ k) (hk : 1 ≤ k) : DL x k := dec_len_le h hk
theorem DL.itoa {x : Int} {k : Nat} (h : DL x k) : (Lib.itoa x).length ≤ k + 1 := dig_len h
theorem DL.pcs {x : Int} {k : Nat} (h : DL x k) : (pcs 10000 x.natAbs).length ≤ k := by
  apply pcs_len_le_of_lt (by decide)
  exact Nat.lt_of_lt_of_le h.lt (Nat.pow_le_pow_left (by decide) _)
theorem DL.add {x y : Int} {k : Nat} (hx : DL x k) (hy : DL y k) : DL (x + y) (k + 1) := by
  apply DL.of_lt _ (by omega)
  have h1 := hx.lt
  have h2 := hy.lt
  rw [Nat.pow_succ]; omega
theorem DL.mul {x y : Int} {k l : Nat} (hx : DL x k) (hy : DL y l) (hk : 1 ≤ k) : DL (x * y) (k + l) := by
  apply DL.of_lt _ (by omega)
  rw [Int.natAbs_mul, Nat.pow_add]
  exact Nat.mul_lt_mul'' hx.lt hy.lt
theorem DL.neg {x : Int} {k : Nat} (hx : DL x k) : DL (-x) k := by unfold DL; rw [Int.natAbs_neg]; exact hx
theorem DL.one_le {x : Int} {k : Nat} (hx : DL x k) : 1 ≤ k := Nat.le_trans (List.length_pos_iff.2 (dec_ne _)) hx

theorem pcsR_add {a b N : Nat} (ha : (pcs 10000 a).length ≤ N) (hb : (pcs 10000 b).length ≤ N) : (pcs 10000 (a + b)).length ≤ N + 1 := by
  apply pcs_len_le_of_lt (by decide)
  have h1 := Nat.lt_of_lt_of_le (pcs_len_lt (B := 10000) (by decide) a) (Nat.pow_le_pow_right (by decide) ha)
  have h2 := Nat.lt_of_lt_of_le (pcs_len_lt (B := 10000) (by decide) b) (Nat.pow_le_pow_right (by decide) hb)
  rw [Nat.pow_succ]
  omega
theorem pcsR_mono {a b N : Nat} (hab : a ≤ b) (hb : (pcs 10000 b).length ≤ N) : (pcs 10000 a).length ≤ N := by
  apply pcs_len_le_of_lt (by decide)
  exact Nat.lt_of_le_of_lt hab (Nat.lt_of_lt_of_le (pcs_len_lt (B := 10000) (by decide) b) (Nat.pow_le_pow_right (by decide) hb))

theorem dec_len_natAbs (x : Int) : Lib.decDigits ((x.natAbs : Int)).natAbs = Lib.decDigits x.natAbs := by rw [Int.natAbs_natCast]

theorem refAdd_small (x y : Int) (hx : DL x 17) (hy : DL y 17) (w : World) (hW : Wd w) :
    Calls Tryz.prog 19 #[.string (txt x), .string (txt y)] w fun e w' => e = .returned (.string (txt (x + y))) ∧ Below w.heap.size w w' := by
  have hy' : (Lib.decDigits y.natAbs).length ≤ 17 := hy
  have hc1 := brief_yes x hx w
  have b1 := hx.lt
  have b2 := hy.lt
  have e17 : (10 : Nat) ^ 17 = 100000000000000000 := rfl
  rw [e17] at b1 b2
  have h0 : -9223372036854775808 ≤ x + y := by omega
  have h1 : x + y ≤ 9223372036854775807 := by omega
  clear b1 b2 e17
  go_enter Tryz.func19, Tryz.ntmps19
  go_wp2_with (first
    | (with_reducible refine Calls.mono hc1 ?_; rintro e w1 ⟨rfl, hb1⟩; have hc2 := brief_yes y hy' w1)
    | (with_reducible refine Calls.mono hc2 ?_; rintro e w2 ⟨rfl, hb2⟩; have hb12 := hb1.trans (hb2.mono hb1.size); have hc3 := refOf_any (x + y) h0 h1 w2 (hW.below hb12))
    | (with_reducible refine Calls.mono hc3 ?_; rintro e w3 ⟨rfl, hb3⟩))
  go_ret
  exact ⟨rfl, hb12.trans (hb3.mono hb12.size)⟩

theorem brief_some (x : Int) (hm : (Lib.decDigits x.natAbs).length ≤ 2147483648) : ∃ (v : Int) (b : Bool), ∀ w : World, Calls Tryz.prog 50 #[.string (txt x)] w fun e w' => e = .returned (.tuple #[.int .i64 v, .bool b]) ∧ Below w.heap.size w w' := by
  by_cases h : (Lib.decDigits x.natAbs).length ≤ 17
  · exact ⟨x, true, fun w => brief_yes x h w⟩
  · exact ⟨0, false, fun w => brief_no x h hm w⟩

theorem add_alike' {x y : Int} (h : decide (x < 0) = decide (y < 0)) : (if decide (x < 0) then -((val 10000 (pcs 10000 (x.natAbs + y.natAbs)) : Nat) : Int) else ((val 10000 (pcs 10000 (x.natAbs + y.natAbs)) : Nat) : Int)) = x + y := by
  rw [val_pcs (by decide)]; exact add_alike h
theorem add_otherx {x y : Int} (h : ¬ decide (x < 0) = decide (y < 0)) (hl : ¬ x.natAbs < y.natAbs) : (if decide (x < 0) then -((val 10000 (pcs 10000 (x.natAbs - y.natAbs)) : Nat) : Int) else ((val 10000 (pcs 10000 (x.natAbs - y.natAbs)) : Nat) : Int)) = x + y := by
  rw [val_pcs (by decide)]; exact add_other h hl
theorem add_othery {x y : Int} (h : ¬ decide (x < 0) = decide (y < 0)) (hl : x.natAbs < y.natAbs) : (if decide (y < 0) then -((val 10000 (pcs 10000 (y.natAbs - x.natAbs)) : Nat) : Int) else ((val 10000 (pcs 10000 (y.natAbs - x.natAbs)) : Nat) : Int)) = x + y := by
  rw [val_pcs (by decide)]; exact add_other' h hl

set_option maxHeartbeats 2000000 in
theorem refAdd_big1 (x y : Int) (hs : ¬ (Lib.decDigits x.natAbs).length ≤ 17) (hx : DL x 99000) (hy : DL y 99000) (w : World) (hW : Wd w) :
    Calls Tryz.prog 19 #[.string (txt x), .string (txt y)] w fun e w' => e = .returned (.string (txt (x + y))) ∧ Below w.heap.size w w' := by
  have hx' := hx.itoa
  have hy' := hy.itoa
  have px := hx.pcs
  have py := hy.pcs
  have dx := dig_pcs (B := 10000) (by decide) x.natAbs
  have dy := dig_pcs (B := 10000) (by decide) y.natAbs
  have vx := val_pcs (B := 10000) (by decide) x.natAbs
  have vy := val_pcs (B := 10000) (by decide) y.natAbs
  have hd1 : (Lib.decDigits x.natAbs).length ≤ 99000 := hx
  have hd2 : (Lib.decDigits y.natAbs).length ≤ 99000 := hy
  have hsp1 := fun w => split_txt x (by omega) w
  have hsp2 := fun w => split_txt y (by omega) w
  have htk1 := fun w => take_any x.natAbs (by omega) w
  have htk2 := fun w => take_any y.natAbs (by omega) w
  have htr : ∀ a b c : World, Below a.heap.size a b → Below b.heap.size b c → Below a.heap.size a c := fun a b c h1 h2 => h1.trans (h2.mono h1.size)
  have hA := brief_no x hs (by omega) w
  obtain ⟨v2, b2, hbr⟩ := brief_some y (by omega)
  clear hd1 hd2 hx' hy'
  go_enter Tryz.func19, Tryz.ntmps19
  go_wp2_with (first
    | (with_reducible refine Calls.mono hA ?_; rintro e w1 ⟨rfl, hb1⟩; have hB := hbr w1)
    | (with_reducible refine Calls.mono hB ?_; rintro e w2 ⟨rfl, hb2⟩; have hB2 := htr _ _ _ hb1 hb2; have hC := hsp1 w2)
    | (with_reducible refine Calls.mono hC ?_; rintro e w3 ⟨rfl, hb3⟩; have hB3 := htr _ _ _ hB2 hb3; have hD := hsp2 w3)
    | (with_reducible refine Calls.mono hD ?_; rintro e w4 ⟨rfl, hb4⟩; have hB4 := htr _ _ _ hB3 hb4; have hE := htk1 w4)
    | (with_reducible refine Calls.mono hE ?_; rintro e w5 ⟨⟨A1, n1, c1, rfl, hU1, hf1⟩, hb5⟩; have hB5 := htr _ _ _ hB4 hb5; have hF := htk2 w5)
    | (with_reducible refine Calls.mono hF ?_; rintro e w6 ⟨⟨A2, n2, c2, rfl, hU2, hf2⟩, hb6⟩; have hB6 := htr _ _ _ hB5 hb6; have hV1 := hU1.to hb6 (Nat.le_refl _)))
  all_goals (
    have hn1 : n1 ≤ 99000 := by rw [← hV1.len]; exact px
    have hn2 : n2 ≤ 99000 := by rw [← hU2.len]; exact py
    have HVX := Lib.hid vx; clear vx
    have HVY := Lib.hid vy; clear vy)
  · have hj := joined_any A1 A2 n1 n2 c1 c2 _ _ 1 (by decide) (x.natAbs + y.natAbs) (by rw [HVX.out, HVY.out]; omega) dx dy w6 hV1 hU2 (by omega) (by omega)
    have hz := add_alike' (x := x) (y := y) (by simpa using ‹(decide (x < 0) == decide (y < 0)) = true›)
    have hlen := pcsR_add px py
    have hdg := dig_pcs (B := 10000) (by decide) (x.natAbs + y.natAbs)
    with_reducible refine Calls.mono hj ?_
    rintro e w7 ⟨⟨A3, n3, c3, rfl, hU3, hf3⟩, hb7⟩
    have hB7 := htr _ _ _ hB6 hb7
    have hn3 : n3 ≤ 100000000 := by rw [← hU3.len]; omega
    have hmd := made_any (decide (x < 0)) A3 n3 c3 _ _ hz hdg w7 (hW.below hB7) hU3 hn3
    clear hz
    go_wp2_with (with_reducible refine Calls.mono hmd ?_; rintro e w8 ⟨rfl, hb8⟩)
    all_goals go_ret
    all_goals exact ⟨rfl, htr _ _ _ hB7 hb8⟩
  · have hns : ¬ decide (x < 0) = decide (y < 0) := by simpa using ‹(decide (x < 0) == decide (y < 0)) = false›
    have hle := lessR_any A1 A2 n1 n2 c1 c2 x.natAbs y.natAbs w6 hV1 hU2 (by omega) (by omega)
    by_cases hlt : x.natAbs < y.natAbs
    · rw [decide_eq_true hlt] at hle
      with_reducible refine Calls.mono hle ?_
      rintro e w7 ⟨rfl, hb7⟩
      have hB7 := htr _ _ _ hB6 hb7
      have hV1' := hV1.to hb7 (Nat.le_refl _)
      have hV2' := hU2.to hb7 (Nat.le_refl _)
      have hj := joined_any A2 A1 n2 n1 c2 c1 _ _ (-1) (by decide) (y.natAbs - x.natAbs) (by rw [HVX.out, HVY.out]; omega) dy dx w7 hV2' hV1' (by omega) (by omega)
      have hz := add_othery hns hlt
      have hlen := pcsR_mono (Nat.sub_le y.natAbs x.natAbs) py
      have hdg := dig_pcs (B := 10000) (by decide) (y.natAbs - x.natAbs)
      clear hns hlt
      go_wp2_with (with_reducible refine Calls.mono hj ?_; rintro e w8 ⟨⟨A3, n3, c3, rfl, hU3, hf3⟩, hb8⟩)
      have hB8 := htr _ _ _ hB7 hb8
      have hn3 : n3 ≤ 100000000 := by rw [← hU3.len]; omega
      have hmd := made_any (decide (y < 0)) A3 n3 c3 _ _ hz hdg w8 (hW.below hB8) hU3 hn3
      clear hz
      with_reducible refine Calls.mono hmd ?_
      rintro e w9 ⟨rfl, hb9⟩
      go_wp2_with fail
      all_goals go_ret
      all_goals exact ⟨rfl, htr _ _ _ hB8 hb9⟩
    · rw [decide_eq_false hlt] at hle
      with_reducible refine Calls.mono hle ?_
      rintro e w7 ⟨rfl, hb7⟩
      have hB7 := htr _ _ _ hB6 hb7
      have hV1' := hV1.to hb7 (Nat.le_refl _)
      have hV2' := hU2.to hb7 (Nat.le_refl _)
      have hj := joined_any A1 A2 n1 n2 c1 c2 _ _ (-1) (by decide) (x.natAbs - y.natAbs) (by rw [HVX.out, HVY.out]; omega) dx dy w7 hV1' hV2' (by omega) (by omega)
      have hz := add_otherx hns hlt
      have hlen := pcsR_mono (Nat.sub_le x.natAbs y.natAbs) px
      have hdg := dig_pcs (B := 10000) (by decide) (x.natAbs - y.natAbs)
      clear hns hlt
      go_wp2_with (with_reducible refine Calls.mono hj ?_; rintro e w8 ⟨⟨A3, n3, c3, rfl, hU3, hf3⟩, hb8⟩)
      have hB8 := htr _ _ _ hB7 hb8
      have hn3 : n3 ≤ 100000000 := by rw [← hU3.len]; omega
      have hmd := made_any (decide (x < 0)) A3 n3 c3 _ _ hz hdg w8 (hW.below hB8) hU3 hn3
      clear hz
      with_reducible refine Calls.mono hmd ?_
      rintro e w9 ⟨rfl, hb9⟩
      go_wp2_with fail
      all_goals go_ret
      all_goals exact ⟨rfl, htr _ _ _ hB8 hb9⟩

set_option maxHeartbeats 2000000 in
theorem refAdd_big2 (x y : Int) (hs1 : (Lib.decDigits x.natAbs).length ≤ 17) (hs : ¬ (Lib.decDigits y.natAbs).length ≤ 17) (hx : DL x 99000) (hy : DL y 99000) (w : World) (hW : Wd w) :
    Calls Tryz.prog 19 #[.string (txt x), .string (txt y)] w fun e w' => e = .returned (.string (txt (x + y))) ∧ Below w.heap.size w w' := by
  have hx' := hx.itoa
  have hy' := hy.itoa
  have px := hx.pcs
  have py := hy.pcs
  have dx := dig_pcs (B := 10000) (by decide) x.natAbs
  have dy := dig_pcs (B := 10000) (by decide) y.natAbs
  have vx := val_pcs (B := 10000) (by decide) x.natAbs
  have vy := val_pcs (B := 10000) (by decide) y.natAbs
  have hd1 : (Lib.decDigits x.natAbs).length ≤ 99000 := hx
  have hd2 : (Lib.decDigits y.natAbs).length ≤ 99000 := hy
  have hsp1 := fun w => split_txt x (by omega) w
  have hsp2 := fun w => split_txt y (by omega) w
  have htk1 := fun w => take_any x.natAbs (by omega) w
  have htk2 := fun w => take_any y.natAbs (by omega) w
  have htr : ∀ a b c : World, Below a.heap.size a b → Below b.heap.size b c → Below a.heap.size a c := fun a b c h1 h2 => h1.trans (h2.mono h1.size)
  have hA := brief_yes x hs1 w
  have hbr := fun w => brief_no y hs (by omega) w
  clear hd1 hd2 hx' hy'
  go_enter Tryz.func19, Tryz.ntmps19
  go_wp2_with (first
    | (with_reducible refine Calls.mono hA ?_; rintro e w1 ⟨rfl, hb1⟩; have hB := hbr w1)
    | (with_reducible refine Calls.mono hB ?_; rintro e w2 ⟨rfl, hb2⟩; have hB2 := htr _ _ _ hb1 hb2; have hC := hsp1 w2)
    | (with_reducible refine Calls.mono hC ?_; rintro e w3 ⟨rfl, hb3⟩; have hB3 := htr _ _ _ hB2 hb3; have hD := hsp2 w3)
    | (with_reducible refine Calls.mono hD ?_; rintro e w4 ⟨rfl, hb4⟩; have hB4 := htr _ _ _ hB3 hb4; have hE := htk1 w4)
    | (with_reducible refine Calls.mono hE ?_; rintro e w5 ⟨⟨A1, n1, c1, rfl, hU1, hf1⟩, hb5⟩; have hB5 := htr _ _ _ hB4 hb5; have hF := htk2 w5)
    | (with_reducible refine Calls.mono hF ?_; rintro e w6 ⟨⟨A2, n2, c2, rfl, hU2, hf2⟩, hb6⟩; have hB6 := htr _ _ _ hB5 hb6; have hV1 := hU1.to hb6 (Nat.le_refl _)))
  all_goals (
    have hn1 : n1 ≤ 99000 := by rw [← hV1.len]; exact px
    have hn2 : n2 ≤ 99000 := by rw [← hU2.len]; exact py
    have HVX := Lib.hid vx; clear vx
    have HVY := Lib.hid vy; clear vy)
  · have hj := joined_any A1 A2 n1 n2 c1 c2 _ _ 1 (by decide) (x.natAbs + y.natAbs) (by rw [HVX.out, HVY.out]; omega) dx dy w6 hV1 hU2 (by omega) (by omega)
    have hz := add_alike' (x := x) (y := y) (by simpa using ‹(decide (x < 0) == decide (y < 0)) = true›)
    have hlen := pcsR_add px py
    have hdg := dig_pcs (B := 10000) (by decide) (x.natAbs + y.natAbs)
    with_reducible refine Calls.mono hj ?_
    rintro e w7 ⟨⟨A3, n3, c3, rfl, hU3, hf3⟩, hb7⟩
    have hB7 := htr _ _ _ hB6 hb7
    have hn3 : n3 ≤ 100000000 := by rw [← hU3.len]; omega
    have hmd := made_any (decide (x < 0)) A3 n3 c3 _ _ hz hdg w7 (hW.below hB7) hU3 hn3
    clear hz
    go_wp2_with (with_reducible refine Calls.mono hmd ?_; rintro e w8 ⟨rfl, hb8⟩)
    all_goals go_ret
    all_goals exact ⟨rfl, htr _ _ _ hB7 hb8⟩
  · have hns : ¬ decide (x < 0) = decide (y < 0) := by simpa using ‹(decide (x < 0) == decide (y < 0)) = false›
    have hle := lessR_any A1 A2 n1 n2 c1 c2 x.natAbs y.natAbs w6 hV1 hU2 (by omega) (by omega)
    by_cases hlt : x.natAbs < y.natAbs
    · rw [decide_eq_true hlt] at hle
      with_reducible refine Calls.mono hle ?_
      rintro e w7 ⟨rfl, hb7⟩
      have hB7 := htr _ _ _ hB6 hb7
      have hV1' := hV1.to hb7 (Nat.le_refl _)
      have hV2' := hU2.to hb7 (Nat.le_refl _)
      have hj := joined_any A2 A1 n2 n1 c2 c1 _ _ (-1) (by decide) (y.natAbs - x.natAbs) (by rw [HVX.out, HVY.out]; omega) dy dx w7 hV2' hV1' (by omega) (by omega)
      have hz := add_othery hns hlt
      have hlen := pcsR_mono (Nat.sub_le y.natAbs x.natAbs) py
      have hdg := dig_pcs (B := 10000) (by decide) (y.natAbs - x.natAbs)
      clear hns hlt
      go_wp2_with (with_reducible refine Calls.mono hj ?_; rintro e w8 ⟨⟨A3, n3, c3, rfl, hU3, hf3⟩, hb8⟩)
      have hB8 := htr _ _ _ hB7 hb8
      have hn3 : n3 ≤ 100000000 := by rw [← hU3.len]; omega
      have hmd := made_any (decide (y < 0)) A3 n3 c3 _ _ hz hdg w8 (hW.below hB8) hU3 hn3
      clear hz
      with_reducible refine Calls.mono hmd ?_
      rintro e w9 ⟨rfl, hb9⟩
      go_wp2_with fail
      all_goals go_ret
      all_goals exact ⟨rfl, htr _ _ _ hB8 hb9⟩
    · rw [decide_eq_false hlt] at hle
      with_reducible refine Calls.mono hle ?_
      rintro e w7 ⟨rfl, hb7⟩
      have hB7 := htr _ _ _ hB6 hb7
      have hV1' := hV1.to hb7 (Nat.le_refl _)
      have hV2' := hU2.to hb7 (Nat.le_refl _)
      have hj := joined_any A1 A2 n1 n2 c1 c2 _ _ (-1) (by decide) (x.natAbs - y.natAbs) (by rw [HVX.out, HVY.out]; omega) dx dy w7 hV1' hV2' (by omega) (by omega)
      have hz := add_otherx hns hlt
      have hlen := pcsR_mono (Nat.sub_le x.natAbs y.natAbs) px
      have hdg := dig_pcs (B := 10000) (by decide) (x.natAbs - y.natAbs)
      clear hns hlt
      go_wp2_with (with_reducible refine Calls.mono hj ?_; rintro e w8 ⟨⟨A3, n3, c3, rfl, hU3, hf3⟩, hb8⟩)
      have hB8 := htr _ _ _ hB7 hb8
      have hn3 : n3 ≤ 100000000 := by rw [← hU3.len]; omega
      have hmd := made_any (decide (x < 0)) A3 n3 c3 _ _ hz hdg w8 (hW.below hB8) hU3 hn3
      clear hz
      with_reducible refine Calls.mono hmd ?_
      rintro e w9 ⟨rfl, hb9⟩
      go_wp2_with fail
      all_goals go_ret
      all_goals exact ⟨rfl, htr _ _ _ hB8 hb9⟩

theorem refAdd_any (x y : Int) (hx : DL x 99000) (hy : DL y 99000) (w : World) (hW : Wd w) :
    Calls Tryz.prog 19 #[.string (txt x), .string (txt y)] w fun e w' => e = .returned (.string (txt (x + y))) ∧ Below w.heap.size w w' := by
  by_cases h1 : (Lib.decDigits x.natAbs).length ≤ 17
  · by_cases h2 : (Lib.decDigits y.natAbs).length ≤ 17
    · exact refAdd_small x y h1 h2 w hW
    · exact refAdd_big2 x y h1 h2 hx hy w hW
  · exact refAdd_big1 x y h1 hx hy w hW

theorem refSub_any (x y : Int) (hx : DL x 99000) (hy : DL y 99000) (w : World) (hW : Wd w) :
    Calls Tryz.prog 78 #[.string (txt x), .string (txt y)] w fun e w' => e = .returned (.string (txt (x - y))) ∧ Below w.heap.size w w' := by
  have hng := refNeg_any y (by have := hy.itoa; omega) w
  have had := fun w hW => refAdd_any x (-y) hx hy.neg w hW
  rw [← Int.sub_eq_add_neg] at had
  go_enter Tryz.func78, Tryz.ntmps78
  go_wp2_with (first
    | (with_reducible refine Calls.mono hng ?_; rintro e w1 ⟨rfl, hb1⟩; have had1 := had w1 (hW.below hb1))
    | (with_reducible refine Calls.mono had1 ?_; rintro e w2 ⟨rfl, hb2⟩))
  go_ret
  exact ⟨rfl, hb1.trans (hb2.mono hb1.size)⟩

theorem refCompare_any (x y : Int) (hx : DL x 98000) (hy : DL y 98000) (w : World) (hW : Wd w) :
    Calls Tryz.prog 38 #[.string (txt x), .string (txt y)] w fun e w' => e = .returned (.int .i64 (x - y).sign) ∧ Below w.heap.size w w' := by
  have hsb := refSub_any x y (hx.mono (by decide)) (hy.mono (by decide)) w hW
  have hdl : DL (x - y) 98001 := by rw [Int.sub_eq_add_neg]; exact hx.add hy.neg
  have hsg := fun w => refSign_any (x - y) (by have := hdl.itoa; omega) w
  go_enter Tryz.func38, Tryz.ntmps38
  go_wp2_with (first
    | (with_reducible refine Calls.mono hsb ?_; rintro e w1 ⟨rfl, hb1⟩; have hsg1 := hsg w1)
    | (with_reducible refine Calls.mono hsg1 ?_; rintro e w2 ⟨rfl, hb2⟩))
  go_ret
  exact ⟨rfl, hb1.trans (hb2.mono hb1.size)⟩
end Go.Proofs.YtgfgpepdkffhbaaGreatDoor.Kl
namespace Go.Proofs.YtgfgpepdkffhbaaGreatDoor.Kl
open Go.RowKit Go.Shelf
set_option linter.unusedVariables false
set_option linter.unusedSimpArgs false

theorem mul_sign' (x y : Int) : (if (!(decide (x < 0) == decide (y < 0))) then -((val 10000 (pcs 10000 (x.natAbs * y.natAbs)) : Nat) : Int) else ((val 10000 (pcs 10000 (x.natAbs * y.natAbs)) : Nat) : Int)) = x * y := by
  rw [val_pcs (by decide)]; exact mul_sign x y
theorem pcsR_mul {a b N M : Nat} (ha : (pcs 10000 a).length ≤ N) (hb : (pcs 10000 b).length ≤ M) : (pcs 10000 (a * b)).length ≤ N + M := by
  apply pcs_len_le_of_lt (by decide)
  rw [Nat.pow_add]
  exact Nat.mul_lt_mul'' (Nat.lt_of_lt_of_le (pcs_len_lt (B := 10000) (by decide) a) (Nat.pow_le_pow_right (by decide) ha)) (Nat.lt_of_lt_of_le (pcs_len_lt (B := 10000) (by decide) b) (Nat.pow_le_pow_right (by decide) hb))

set_option maxHeartbeats 1000000 in
theorem refMul_any (x y : Int) (hx : DL x 99000) (hy : DL y 99000) (w : World) (hW : Wd w) :
    Calls Tryz.prog 35 #[.string (txt x), .string (txt y)] w fun e w' => e = .returned (.string (txt (x * y))) ∧ Below w.heap.size w w' := by
  have hx' := hx.itoa
  have hy' := hy.itoa
  have px := hx.pcs
  have py := hy.pcs
  have hd1 : (Lib.decDigits x.natAbs).length ≤ 99000 := hx
  have hd2 : (Lib.decDigits y.natAbs).length ≤ 99000 := hy
  have s1 : (txt (x.natAbs : Int)).size = (Lib.decDigits x.natAbs).length := by rw [txt_size, itoa_nat]
  have s2 : (txt (y.natAbs : Int)).size = (Lib.decDigits y.natAbs).length := by rw [txt_size, itoa_nat]
  have hsp1 := split_txt x (by omega) w
  have hsp2 := fun w => split_txt y (by omega) w
  have htr : ∀ a b c : World, Below a.heap.size a b → Below b.heap.size b c → Below a.heap.size a c := fun a b c h1 h2 => h1.trans (h2.mono h1.size)
  by_cases hs : (Lib.decDigits x.natAbs).length + (Lib.decDigits y.natAbs).length ≤ 18
  · have hle1 : (Lib.decDigits x.natAbs).length ≤ 18 := by omega
    have hle2 : (Lib.decDigits y.natAbs).length ≤ 18 := by omega
    have hsm1 := fun w => refSmall_any x hle1 w
    have hsm2 := fun w => refSmall_any y hle2 w
    have hprod : (x * y).natAbs < 10 ^ 18 := by
      rw [Int.natAbs_mul]
      refine Nat.lt_of_lt_of_le (Nat.mul_lt_mul'' (dec_lt x.natAbs) (dec_lt y.natAbs)) ?_
      rw [← Nat.pow_add]
      exact Nat.pow_le_pow_right (by decide) hs
    have e18 : (10 : Nat) ^ 18 = 1000000000000000000 := rfl
    rw [e18] at hprod
    have h0 : -9223372036854775808 ≤ x * y := by omega
    have h1 : x * y ≤ 9223372036854775807 := by omega
    obtain ⟨z, hz⟩ : ∃ z, x * y = z := ⟨_, rfl⟩
    have hw : wrap64 (x * y) = z := by rw [hz]; exact IntWalk.wrap64_in _ ⟨by omega, by omega⟩
    have hof := fun w hW => refOf_any (x * y) h0 h1 w hW
    rw [hz] at hof h0 h1 ⊢
    have hwz : wrap64 z = z := IntWalk.wrap64_in _ ⟨h0, h1⟩
    have hsi : ((Lib.decDigits x.natAbs).length : Int) + ((Lib.decDigits y.natAbs).length : Int) ≤ 18 := by omega
    clear hprod e18
    go_enter Tryz.func35, Tryz.ntmps35
    go_wp2_with (first
      | (with_reducible refine Calls.mono hsp1 ?_; rintro e w1 ⟨rfl, hb1⟩; have hB := hsp2 w1)
      | (with_reducible refine Calls.mono hB ?_; rintro e w2 ⟨rfl, hb2⟩; have hB2 := htr _ _ _ hb1 hb2; have hC := hsm1 w2)
      | (with_reducible refine Calls.mono hC ?_; rintro e w3 ⟨rfl, hb3⟩; have hB3 := htr _ _ _ hB2 hb3; have hD := hsm2 w3)
      | (with_reducible refine Calls.mono hD ?_; rintro e w4 ⟨rfl, hb4⟩; have hB4 := htr _ _ _ hB3 hb4; have hE := hof w4 (hW.below hB4))
      | (with_reducible refine Calls.mono hE ?_; rintro e w5 ⟨rfl, hb5⟩))
    go_ret
    exact ⟨rfl, htr _ _ _ hB4 hb5⟩
  · have htk1 := fun w => take_any x.natAbs (by omega) w
    have htk2 := fun w => take_any y.natAbs (by omega) w
    have hsi : ¬ ((Lib.decDigits x.natAbs).length : Int) + ((Lib.decDigits y.natAbs).length : Int) ≤ 18 := by omega
    have hz := mul_sign' x y
    have hlen := pcsR_mul px py
    have hdg := dig_pcs (B := 10000) (by decide) (x.natAbs * y.natAbs)
    have htm : ∀ (w w1 w2 : World) (A1 : Option Addr) (n1 c1 : Nat) (A2 : Option Addr) (n2 c2 : Nat), IsU .i64 w1 w1.heap.size A1 n1 c1 (pcs 10000 x.natAbs) → Below w1.heap.size w1 w2 → IsU .i64 w2 w2.heap.size A2 n2 c2 (pcs 10000 y.natAbs) → Calls Tryz.prog 75 #[.slice A1 n1 c1, .slice A2 n2 c2] w2 fun e w' => (∃ A3 n3 c3, e = .returned (.slice A3 n3 c3) ∧ IsU .i64 w' w'.heap.size A3 n3 c3 (pcs 10000 (x.natAbs * y.natAbs)) ∧ Fresh w2.heap.size A3) ∧ Below w2.heap.size w2 w' := fun w w1 w2 A1 n1 c1 A2 n2 c2 h1 hb h2 =>
      timesR_any A1 A2 n1 n2 c1 c2 x.natAbs y.natAbs w2 (h1.to hb (Nat.le_refl _)) h2 (by rw [← h1.len]; exact px) (by rw [← h2.len]; exact py)
    have hmd : ∀ (w7 : World) (A3 : Option Addr) (n3 c3 : Nat), Below w.heap.size w w7 → IsU .i64 w7 w7.heap.size A3 n3 c3 (pcs 10000 (x.natAbs * y.natAbs)) → Calls Tryz.prog 53 #[.bool (!(decide (x < 0) == decide (y < 0))), .slice A3 n3 c3] w7 fun e w' => e = .returned (.string (txt (x * y))) ∧ Below w7.heap.size w7 w' := fun w7 A3 n3 c3 hB h =>
      made_any _ A3 n3 c3 _ _ hz hdg w7 (hW.below hB) h (by rw [← h.len]; omega)
    clear hz hlen hdg px py hx' hy' hs
    go_enter Tryz.func35, Tryz.ntmps35
    go_wp2_with (first
      | (with_reducible refine Calls.mono hsp1 ?_; rintro e w1 ⟨rfl, hb1⟩; have hB := hsp2 w1)
      | (with_reducible refine Calls.mono hB ?_; rintro e w2 ⟨rfl, hb2⟩; have hB2 := htr _ _ _ hb1 hb2; have hC := htk1 w2)
      | (with_reducible refine Calls.mono hC ?_; rintro e w3 ⟨⟨A1, n1, c1, rfl, hU1, hf1⟩, hb3⟩; have hB3 := htr _ _ _ hB2 hb3; have hD := htk2 w3)
      | (with_reducible refine Calls.mono hD ?_; rintro e w4 ⟨⟨A2, n2, c2, rfl, hU2, hf2⟩, hb4⟩; have hB4 := htr _ _ _ hB3 hb4; have hE := htm w w3 w4 A1 n1 c1 A2 n2 c2 hU1 hb4 hU2)
      | (with_reducible refine Calls.mono hE ?_; rintro e w5 ⟨⟨A3, n3, c3, rfl, hU3, hf3⟩, hb5⟩; have hB5 := htr _ _ _ hB4 hb5; have hF := hmd w5 A3 n3 c3 hB5 hU3)
      | (with_reducible refine Calls.mono hF ?_; rintro e w6 ⟨rfl, hb6⟩))
    all_goals go_ret
    all_goals exact ⟨rfl, htr _ _ _ hB5 hb6⟩
end Go.Proofs.YtgfgpepdkffhbaaGreatDoor.Kl
namespace Go.Proofs.YtgfgpepdkffhbaaGreatDoor.Kl
open Go.RowKit Go.Shelf
set_option linter.unusedVariables false
set_option linter.unusedSimpArgs false

def DivZ (x y : Nat) (e : Ending) (w' : World) : Prop := ∃ A1 n1 c1 A2 n2 c2, e = .returned (.tuple #[.slice A1 n1 c1, .slice A2 n2 c2]) ∧ IsU .i64 w' w'.heap.size A1 n1 c1 (pcs 10000 (x / y)) ∧ IsU .i64 w' w'.heap.size A2 n2 c2 (pcs 10000 (x % y))

/-- halving has found the quotient. -/
theorem half_done {R y lo hi : Nat} (hy : 0 < y) (h1 : lo * y ≤ R) (h2 : R < (hi + 1) * y) (hle : hi ≤ lo) (hge : lo ≤ hi) : lo = R / y := by
  have e : lo = hi := by omega
  subst e
  symm
  exact (Nat.div_eq_iff hy).2 ⟨h1, by have := Nat.succ_mul lo y; simp only [Nat.succ_eq_add_one] at this; omega⟩

set_option maxRecDepth 100000 in
set_option maxHeartbeats 4000000 in
theorem parts_ref (A A' : Option Addr) (n n' c c' : Nat) (x y : Nat) (hy : 0 < y) (w : World) (h : IsU .i64 w w.heap.size A n c (pcs 10000 x)) (h' : IsU .i64 w w.heap.size A' n' c' (pcs 10000 y)) (hm : n ≤ 200000) (hm' : n' ≤ 200000) :
    Calls Tryz.prog 92 #[.slice A n c, .slice A' n' c'] w fun e w' => DivZ x y e w' ∧ Below w.heap.size w w' := by
  obtain ⟨i0, hi0, hz0, hz1, hz2⟩ := info_parts info_int
  have hpl := h.len
  have hql := h'.len
  have hq0 := QInv.start (B := 10000) (a := x) (b := y) (by decide)
  have hx0 : x / 10000 ^ n % y = 0 := by
    have := pcs_len_lt (B := 10000) (by decide) x
    rw [hpl] at this
    rw [Nat.div_eq_of_lt this]; exact Nat.zero_mod _
  rw [hpl] at hq0
  have HQ0 := Lib.hid hq0; clear hq0
  have HPL := Lib.hid hpl; clear hpl
  have HQL := Lib.hid hql; clear hql
  have hdy := dig_pcs (B := 10000) (by decide) y
  have hvy := val_pcs (B := 10000) (by decide) y
  have HDY := Lib.hid hdy; clear hdy
  have HVY := Lib.hid hvy; clear hvy
  go_enter Tryz.func92, Tryz.ntmps92
  go_wp2_with (at_make; refine wpList_make_full _ rfl _ _ 75 rfl w.heap.size 3 i0 (.int .i64 0) 1 Tryz.underlying75 hi0 hz0 hz1 .i64 .i64 _ _ n rfl rfl (by omega) (by omega) (by rw [hz2]; omega) (by unfold maxLen; omega) (Nat.le_refl _) ?_; intro w4 hown4 hgrow4)
  have hb4 : Below w.heap.size w w4 := (Below.refl _ _).grown hgrow4 (Nat.le_refl _) (by simp)
  have ho4 : Own .i64 3 w4 w.heap.size (.slice (some ⟨w.heap.size, 0, none⟩) n n) (List.replicate n 0) := by
    rw [show (madeCells (Value.int IntKind.i64 0).cells (n * 1)).toList = us .i64 (List.replicate n 0) by
      rw [Nat.mul_one]; exact (toList_madeCells_one _ _).trans (by simp [us])] at hown4
    unfold Own
    rw [List.length_replicate]; exact hown4
  clear hown4 hgrow4
  go_loopw [7, 8] (fun rv iv wr => ∃ (j : Nat) (qs : List Nat) (Ar : Option Addr) (nr cr : Nat), j ≤ n ∧ iv = .int .i64 ((j : Int) - 1) ∧ rv = .slice Ar nr cr ∧ IsU .i64 wr wr.heap.size Ar nr cr (pcs 10000 (x / 10000 ^ j % y)) ∧ Fresh (w.heap.size + 1) Ar ∧ Own .i64 3 wr w.heap.size (.slice (some ⟨w.heap.size, 0, none⟩) n n) qs ∧ RowKit.Hid (QInv 10000 x y n j qs) ∧ Below w.heap.size w wr) (fun _ iv _ => (intOf iv + 1).toNat)
  case atStart => exact ⟨n, _, none, 0, 0, Nat.le_refl _, rfl, rfl, by rw [hx0, pcs_zero]; exact IsU.nil _ _ _ _ _, Fresh.none_ _, ho4, HQ0, hb4⟩
  case round =>
    obtain ⟨j, qs, Ar, nr, cr, hj, hiv, rfl, hUr, hfr, hown, hinv, hbel⟩ := hrel
    by_cases hj0 : j = 0
    · subst hj0 hiv
      have hfin := hinv.out.fin (by decide)
      have hlen := hinv.out.len
      rw [Nat.pow_zero, Nat.div_one] at hUr
      have hUq : IsU .i64 wr wr.heap.size (some ⟨w.heap.size, 0, none⟩) n n qs := hown.isU
      have hcut := cutR_any (some ⟨w.heap.size, 0, none⟩) n n qs wr hUq (by omega)
      have hT := hUq.trim
      rw [hfin] at hcut hT
      clear hfin hinv
      go_wp2_with (with_reducible refine Calls.mono hcut ?_; rintro e w1 ⟨rfl, hw1⟩; subst hw1)
      go_ret2
      exact ⟨⟨_, _, _, _, _, _, rfl, hT, hUr⟩, hbel⟩
    · obtain ⟨i, rfl⟩ : ∃ i, j = i + 1 := ⟨j - 1, by omega⟩
      rw [show (((i + 1 : Nat) : Int) - 1) = (i : Int) by omega] at hiv
      subst hiv
      obtain ⟨ad1, p, rfl, hb1, hpe, hcp⟩ := (h.below hbel).at_ (j := i) (by omega)
      have hpp : p = x / 10000 ^ i % 10000 := by
        have h3 := pcs_get (B := 10000) (by decide) i x (by rw [HPL.out]; omega)
        rw [hpe] at h3
        exact Option.some.inj h3
      have hp9 : p < 10000 := by rw [hpp]; exact Nat.mod_lt _ (by decide)
      obtain ⟨R, hR⟩ : ∃ R, x / 10000 ^ (i + 1) % y = R := ⟨_, rfl⟩
      have hRy : R < y := by rw [← hR]; exact Nat.mod_lt _ hy
      rw [hR] at hUr
      have hnr : nr ≤ n' := by rw [← hUr.len]; exact pcsR_mono (Nat.le_of_lt hRy) (Nat.le_of_eq HQL.out)
      obtain ⟨S, hS⟩ : ∃ S, p + 10000 * R = S := ⟨_, rfl⟩
      have hSlt : S < 10000 * y := by rw [← hS]; exact rest_lt hp9 hRy
      have hst := rest_step (B := 10000) (a := x) (i := i) hy
      rw [← hpp, hR, hS] at hst
      have htr : trimL ([p] ++ pcs 10000 R) = pcs 10000 S := by
        rw [trim_pcs' (by decide) (Dig.app (Dig.one hp9) (dig_pcs (by decide) R)), val_append, val_pcs (by decide)]
        simp [val, hS]
      have hset : QInv 10000 x y n i (qs.set i (S / y)) := by
        have := hinv.out.step hy (by omega) (by decide) (by rw [← hpp, hR, hS]; exact hSlt)
        rwa [← hpp, hR, hS] at this
      have hS1 : x / 10000 ^ i % y = S % y := hst.1
      have hql1 := hinv.out.len
      have HTR := Lib.hid htr
      have HSET := Lib.hid hset
      have HS1 := Lib.hid hS1
      have HSL := Lib.hid hSlt
      clear htr hset hS1 hpp hst hpe hR hS hSlt hinv
      have hlit : Own .i64 3 (wr.alloc (.cells #[.int .i64 (p : Int)] 3)) wr.heap.size (.slice (some ⟨wr.heap.size, 0, none⟩) 1 1) [p] :=
        World.ownsRow_lit wr #[.int .i64 (p : Int)] 1 (Nat.le_refl _) (by unfold maxLen; omega) rfl
      have hal : Below wr.heap.size wr (wr.alloc (.cells #[.int .i64 (p : Int)] 3)) := (Below.refl _ _).alloc (Nat.le_refl _) _
      have hUr1 := hUr.below hal
      have hgl : w.heap.size < wr.heap.size := by
        obtain ⟨g', cap', e1, _, h4⟩ := hown.row.form (by omega)
        injection e1 with e1
        injection e1 with e1
        injection e1 with e1
        omega
      have hlenR : ([p] ++ pcs 10000 R).length = nr + 1 := by simp [hUr.len]
      have hcutA : ∀ (A6 : Option Addr) (c6 : Nat) (w6 : World), IsU .i64 w6 w6.heap.size A6 (nr + 1) c6 ([p] ++ pcs 10000 R) → Calls Tryz.prog 94 #[.slice A6 (nr + 1) c6] w6 fun e w' => e = .returned (.slice A6 (pcs 10000 S).length c6) ∧ w6 = w' := fun A6 c6 w6 hU => by
        have := cutR_any A6 (nr + 1) c6 _ w6 hU (by omega)
        rwa [HTR.out] at this
      go_upto_region 8 with (first
        | (at_builtin; refine wpList_append_all _ rfl _ _ 75 rfl wr.heap.size 3 i0 (.int .i64 0) 8 Tryz.underlying75 hi0 hz0 hz1 hz2 rfl .i64 _ [p] (pcs 10000 R) rfl hlit wr.heap.size nr cr Ar rfl hUr1 (by unfold maxLen; simp; omega) (by simp; omega) (by simp) ?_; intro v' w6 hownr hgrow6; have hb6 : Below wr.heap.size wr w6 := hal.grown hgrow6 (by simp) (own_base' hlit); have hfl := hownr.form' (n := nr + 1) hlenR; have hfr6' := hownr; obtain ⟨A6, c6, rfl, hU6⟩ := hfl; have hfr6 := hfr6'.fresh; have hcu := hcutA A6 c6 w6 hU6)
        | (with_reducible refine Calls.mono hcu ?_; rintro e w7 ⟨rfl, hw7⟩; subst hw7))
      have hU7 := hU6.trim
      rw [HTR.out] at hU7
      have hown6 := hown.below hb6
      have hB6 : Below w.heap.size w w6 := hbel.trans (hb6.mono hbel.size)
      have hSlen : (pcs 10000 S).length ≤ n' + 1 := by
        have h1 := hU7.len
        have h2 := trimL_le ([p] ++ pcs 10000 R)
        rw [HTR.out, hlenR] at h2
        omega
      obtain ⟨L, hL⟩ : ∃ L, (pcs 10000 S).length = L := ⟨_, rfl⟩
      rw [hL] at hU7 hSlen ⊢
      have HL := Lib.hid hL; clear hL
      have hg6 : wr.heap.size ≤ w6.heap.size := hb6.size
      obtain ⟨wo, hwo⟩ : ∃ wo : World, wr = wo := ⟨_, rfl⟩
      subst hwo
      clear hcutA hU6 hfr6' hownr hgrow6 hUr hUr1 hal hlit hown
      go_loopw [9, 10] (fun lv hv wr => ∃ lo hi : Nat, lv = .int .i64 (lo : Int) ∧ hv = .int .i64 (hi : Int) ∧ lo ≤ hi ∧ hi ≤ 9999 ∧ RowKit.Hid (lo * y ≤ S) ∧ RowKit.Hid (S < (hi + 1) * y) ∧ Below w6.heap.size w6 wr) (fun lv hv _ => (intOf hv - intOf lv).toNat)
      case atStart => exact ⟨0, 9999, rfl, rfl, by decide, by decide, Lib.hid (by omega), Lib.hid (by have := HSL.out; omega), Below.refl _ _⟩
      case round =>
        obtain ⟨lo, hi, rfl, rfl, hlh, hhi, hlo, hhi2, hbx⟩ := hrel
        have hBx : Below w.heap.size w wr := hB6.trans (hbx.mono hB6.size)
        have hUy := h'.to hBx (Nat.le_refl _)
        by_cases hlt : lo < hi
        · obtain ⟨m, hm1⟩ : ∃ m : Nat, ((lo : Int) + (hi : Int) + 1) / 2 = (m : Int) := ⟨(lo + hi + 1) / 2, by omega⟩
          have hm2 : lo < m := by omega
          have hm3 : m ≤ hi := by omega
          have hUS := hU7.to hbx (Nat.le_refl _)
          have hj := joined_any none A' 0 n' 0 c' [] _ (m : Int) ⟨by omega, by omega⟩ (m * y) (by rw [HVY.out]; simp [val]) (Dig.nil _) HDY.out wr (IsU.nil _ _ _ _ _) hUy (by omega) (by omega)
          have hlen2 : (pcs 10000 (m * y)).length ≤ 1 + n' := pcsR_mul (N := 1) (pcs_len_le_of_lt (by decide) (by omega)) (Nat.le_of_eq HQL.out)
          go_wp2_with (with_reducible refine Calls.mono hj ?_; rintro e w8 ⟨⟨A8, n8, c8, rfl, hU8, hf8⟩, hb8⟩)
          have hn8 : n8 ≤ 1 + n' := by rw [← hU8.len]; exact hlen2
          have hUS8 := hUS.to hb8 (Nat.le_refl _)
          have hls := lessR_any A6 A8 L n8 c6 c8 S (m * y) w8 hUS8 hU8 (by omega) (by omega)
          have hbx8 := hbx.trans (hb8.mono hbx.size)
          clear hj hlen2
          by_cases hcmp : S < m * y
          · rw [decide_eq_true hcmp] at hls
            have hnew : S < (m - 1 + 1) * y := by rw [Nat.sub_add_cancel (by omega)]; exact hcmp
            have HNEW := Lib.hid hnew; clear hnew hcmp
            with_reducible refine Calls.mono hls ?_
            rintro e w9 ⟨rfl, hb9⟩
            go_wp2_with fail
            exact ⟨⟨lo, m - 1, rfl, by congr 1; omega, by omega, by omega, hlo, HNEW, hbx8.trans (hb9.mono hbx8.size)⟩, by simp [intOf]; omega⟩
          · rw [decide_eq_false hcmp] at hls
            have HNEW := Lib.hid (show m * y ≤ S by omega); clear hcmp
            with_reducible refine Calls.mono hls ?_
            rintro e w9 ⟨rfl, hb9⟩
            go_wp2_with fail
            exact ⟨⟨m, hi, rfl, rfl, hm3, hhi, HNEW, hhi2, hbx8.trans (hb9.mono hbx8.size)⟩, by simp [intOf]; omega⟩
        · have hd : lo = S / y := half_done hy hlo.out hhi2.out (by omega) hlh
          have hownx := hown6.below hbx
          have hrowx := own_row hownx hql1
          obtain ⟨o, ho⟩ : ∃ o, qs[i]? = some o := ⟨_, List.getElem?_eq_getElem (by omega)⟩
          have cgx := row_cell hrowx (by omega) ho
          have fgx := hrowx.frozenAt i
          have hUS := (hU7.to hbx (Nat.le_refl _)).farSet hfr6 (p := ⟨w.heap.size, i, none⟩) hgl (.int .i64 (lo : Int))
          have hBs : Below w.heap.size w (wr.setCell ⟨w.heap.size, i, none⟩ (.int .i64 (lo : Int))) := hBx.setCell (p := ⟨w.heap.size, i, none⟩) (Nat.le_refl _) _
          have hUys := h'.to hBs (Nat.le_refl _)
          have hsz : (wr.setCell ⟨w.heap.size, i, none⟩ (.int .i64 (lo : Int))).heap.size = wr.heap.size := setCell_size _ _ _
          have hst3 := (hrowx.stored i (.int .i64 (lo : Int))).1
          rw [← us_set] at hst3
          have hown9 : Own .i64 3 (wr.setCell ⟨w.heap.size, i, none⟩ (.int .i64 (lo : Int))) w.heap.size (.slice (some ⟨w.heap.size, 0, none⟩) n n) (qs.set i lo) := by
            unfold Own
            rw [List.length_set, hql1]; exact hst3
          have hsub : ((val 10000 (pcs 10000 S) : Nat) : Int) + -(lo : Int) * ((val 10000 (pcs 10000 y) : Nat) : Int) = ((S % y : Nat) : Int) := by
            rw [HVY.out, val_pcs (by decide), hd]
            have := nat_div_int S y
            rw [Int.neg_mul]; omega
          obtain ⟨W9, hW9⟩ : ∃ W9, wr.setCell ⟨w.heap.size, i, none⟩ (.int .i64 (lo : Int)) = W9 := ⟨_, rfl⟩
          rw [hW9] at hUS hBs hUys hsz hown9
          have hUS' : IsU .i64 W9 W9.heap.size A6 L c6 (pcs 10000 S) := by rw [hsz]; exact hUS
          have hj := joined_any A6 A' L n' c6 c' _ _ (-(lo : Int)) ⟨by omega, by omega⟩ (S % y) hsub (dig_pcs (by decide) S) HDY.out W9 hUS' hUys (by omega) (by omega)
          have HW9 := Lib.hid hW9
          have hset9 := HSET.out
          rw [← hd] at hset9
          have HSET9 := Lib.hid hset9; clear hset9
          clear hsub hst3 hd hUS hW9
          go_wp2_with fail
          rw [HW9.out]
          with_reducible refine Calls.mono hj ?_
          rintro e w10 ⟨⟨A10, n10, c10, rfl, hU10, hf10⟩, hb10⟩
          have hB10 := hBs.trans (hb10.mono hBs.size)
          have hown10 := hown9.below hb10
          rw [← HS1.out] at hU10
          have hge9 : w.heap.size + 1 ≤ W9.heap.size := by
            have := hbx.size
            omega
          go_wp2_with fail
          exact ⟨⟨i, _, A10, n10, c10, by omega, rfl, rfl, hU10, hf10.mono hge9, hown10, HSET9, hB10⟩, by simp [intOf] <;> omega⟩
end Go.Proofs.YtgfgpepdkffhbaaGreatDoor.Kl
