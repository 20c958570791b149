/- The walk of integer.times: the product of two numbers, row by row. -/
import Derived.Test.YtgfgpepdkffhbaaGreatDoorTrim
import Derived.Test.YtgfgpepdkffhbaaGreatDoorOwn
import Derived.Outline
namespace Go.Proofs.YtgfgpepdkffhbaaGreatDoor.Kl
open Go.RowKit
set_option linter.unusedVariables false
set_option linter.unusedSimpArgs false

theorem val_set {B : Nat} : ∀ {os : List Nat} {p o v : Nat}, os[p]? = some o → val B (os.set p v) + B ^ p * o = val B os + B ^ p * v
  | [], p, o, v, h => by simp at h
  | x :: os, 0, o, v, h => by
    simp only [List.getElem?_cons_zero, Option.some.injEq] at h
    subst h
    simp [val]; omega
  | x :: os, p + 1, o, v, h => by
    simp only [List.getElem?_cons_succ] at h
    have ih := val_set (B := B) (v := v) h
    simp only [List.set_cons_succ, val, Nat.pow_succ]
    have e := congrArg (fun t => B * t) ih
    simp only [Nat.mul_add, ← Nat.mul_assoc] at e
    rw [Nat.mul_comm B (B ^ p)] at e
    omega

theorem Dig.set {B : Nat} {os : List Nat} (h : Dig B os) (p : Nat) {v : Nat} (hv : v < B) : Dig B (os.set p v) := fun x hx => by
  rcases List.mem_or_eq_of_mem_set hx with h1 | h1
  · exact h x h1
  · subst h1; exact hv

/-- in the midst of a row: T is what the row began with. -/
structure RowInv (B L T : Nat) (p cr : Nat) (os : List Nat) : Prop where
  len : os.length = L
  dig : Dig B os
  lt : cr < B
  eq : val B os + B ^ p * cr = T

theorem RowInv.step {B L T p cr o a b : Nat} {os : List Nat} (h : RowInv B L T p cr os) (ho : os[p]? = some o) (hs : cr + (o + a * b) < B * B) :
    RowInv B L (T + B ^ p * (a * b)) (p + 1) ((cr + (o + a * b)) / B) (os.set p ((cr + (o + a * b)) % B)) := by
  obtain ⟨h1, h2, h3, h4⟩ := h
  refine ⟨by simp [h1], h2.set p (Nat.mod_lt _ (by omega)), Nat.div_lt_of_lt_mul hs, ?_⟩
  have hv := val_set (B := B) (v := (cr + (o + a * b)) % B) ho
  have hd := Nat.mod_add_div (cr + (o + a * b)) B
  have e := congrArg (fun t => B ^ p * t) hd
  simp only [Nat.mul_add] at e
  rw [← Nat.mul_assoc, show B ^ p * B = B ^ (p + 1) from rfl] at e
  omega

theorem sq_lt {cr o a b : Nat} (h1 : cr < 1000000000) (h2 : o < 1000000000) (h3 : a < 1000000000) (h4 : b < 1000000000) : cr + (o + a * b) < 1000000000 * 1000000000 ∧ a * b ≤ 999999998000000001 := by
  have h5 : a * b ≤ 999999999 * 999999999 := Nat.mul_le_mul (by omega) (by omega)
  omega

/-- a carry that is left has room. -/
theorem RowInv.room {B L T p cr q : Nat} {os : List Nat} (h : RowInv B L T p cr os) (hB : 1 < B) (hT : T < B ^ q) (hc : 0 < cr) : p < q := by
  have h4 := h.eq
  have h5 : B ^ p ≤ B ^ p * cr := Nat.le_mul_of_pos_right _ hc
  have h6 : B ^ p < B ^ q := by omega
  exact (Nat.pow_lt_pow_iff_right hB).1 h6

theorem us_set {k : IntKind} (os : List Nat) (p v : Nat) : us k (os.set p v) = (us k os).set p (.int k (v : Int)) := by simp [us, List.map_set]

theorem prod_lt {B : Nat} {xs ys : List Nat} (hx : Dig B xs) (hy : Dig B ys) (k : Nat) : val B (xs.take k) * val B ys < B ^ (k + ys.length) ∨ B = 0 := by
  rcases Nat.eq_zero_or_pos B with h0 | h0
  · exact .inr h0
  left
  have h1 := val_lt (hx.take k)
  have h2 := val_lt hy
  have h3 : B ^ (xs.take k).length ≤ B ^ k := Nat.pow_le_pow_right h0 (List.length_take_le _ _)
  rw [Nat.pow_add]
  exact Nat.mul_lt_mul'' (by omega) h2

set_option maxRecDepth 100000 in
set_option maxHeartbeats 2000000 in
theorem times_any (A A' : Option Addr) (n n' c c' : Nat) (x y : Nat) (w : World) (h : IsU .u64 w w.heap.size A n c (pcs 1000000000 x)) (h' : IsU .u64 w w.heap.size A' n' c' (pcs 1000000000 y))
    (hm : n ≤ 4294967296) (hm' : n' ≤ 4294967296) :
    Calls Tryz.prog 68 #[.slice A n c, .slice A' n' c'] w fun e w' => (∃ A1 n1 c1, e = .returned (.slice A1 n1 c1) ∧ IsU .u64 w' w'.heap.size A1 n1 c1 (pcs 1000000000 (x * y)) ∧ Fresh w.heap.size A1) ∧ Below w.heap.size w w' := by
  obtain rfl := h.len
  obtain rfl := h'.len
  have dx := dig_pcs (B := 1000000000) (by decide) x
  have dy := dig_pcs (B := 1000000000) (by decide) y
  have vx := val_pcs (B := 1000000000) (by decide) x
  have vy := val_pcs (B := 1000000000) (by decide) y
  have hpq : pcs 1000000000 (x * y) = pcs 1000000000 (val 1000000000 (pcs 1000000000 x) * val 1000000000 (pcs 1000000000 y)) := by rw [vx, vy]
  rw [hpq]
  clear vx vy hpq
  generalize pcs 1000000000 x = xs at *
  generalize pcs 1000000000 y = ys at *
  have DX := Lib.hid dx; clear dx
  have DY := Lib.hid dy; clear dy
  obtain ⟨i0, hi0, hz0, hz1, hz2⟩ := info_parts info_u64
  obtain ⟨P, hP⟩ : ∃ P : List Nat, P = pcs 1000000000 (val 1000000000 xs * val 1000000000 ys) := ⟨_, rfl⟩
  rw [← hP]
  have HP := Lib.hid hP; clear hP
  go_enter Tryz.func68, Tryz.ntmps68
  go_wp2_with (at_make; refine wpList_make_full _ rfl _ _ 109 rfl w.heap.size 145 i0 (.int .u64 0) 1 Tryz.underlying109 hi0 hz0 hz1 .i64 .i64 _ _ (xs.length + ys.length + 1) rfl rfl (by omega) (by omega) (by rw [hz2]; omega) (by unfold maxLen; omega) (Nat.le_refl _) ?_; intro w0 hown0 hgrow0)
  have hb0 : Below w.heap.size w w0 := (Below.refl _ _).grown hgrow0 (Nat.le_refl _) (by simp)
  rw [show (madeCells (Value.int IntKind.u64 0).cells ((xs.length + ys.length + 1) * 1)).toList = us .u64 (List.replicate (xs.length + ys.length + 1) 0) by
    rw [Nat.mul_one]; exact (toList_madeCells_one _ _).trans (by simp [us])] at hown0
  clear hgrow0
  go_loopw [21] (fun i wr => ∃ (k : Nat) (os : List Nat), k ≤ xs.length ∧ i = .int .i64 k ∧ wr.ownsRow w.heap.size 145 1 (.slice (some ⟨w.heap.size, 0, none⟩) (xs.length + ys.length + 1) (xs.length + ys.length + 1)) (xs.length + ys.length + 1) (us .u64 os) ∧ RowInv 1000000000 (xs.length + ys.length + 1) (val 1000000000 (xs.take k) * val 1000000000 ys) 0 0 os ∧ Below w.heap.size w wr)
    (fun i _ => xs.length - (intOf i).toNat)
  case atStart => exact ⟨0, _, Nat.zero_le _, rfl, hown0, ⟨by simp, fun x hx => by rw [List.eq_of_mem_replicate hx]; decide, by decide, by rw [val_replicate]; simp [val]⟩, hb0⟩
  case round =>
    obtain ⟨i, os, hi, rfl, hown, hinv, hbel⟩ := hrel
    by_cases hil : i < xs.length
    · obtain ⟨ad, a, rfl, hb, hxa, hca⟩ := (h.below hbel).at_ (j := i) hil
      have hab : a < 1000000000 := DX.out a (List.mem_of_getElem? hxa)
      have hrow : RowInv 1000000000 (xs.length + ys.length + 1) (val 1000000000 (xs.take i) * val 1000000000 ys + 1000000000 ^ i * (a * val 1000000000 (ys.take 0))) (i + 0) 0 os := by
        obtain ⟨h1, h2, h3, h4⟩ := hinv
        exact ⟨h1, h2, h3, by simpa [val] using h4⟩
      have HR := Lib.hid hrow; clear hrow hinv
      have hnext : val 1000000000 (xs.take i) * val 1000000000 ys + 1000000000 ^ i * (a * val 1000000000 ys) = val 1000000000 (xs.take (i + 1)) * val 1000000000 ys := by
        rw [val_take_succ, hxa, Option.getD_some, Nat.add_mul, Nat.mul_assoc]
      have HN := Lib.hid hnext; clear hnext hxa
      obtain ⟨wo, rfl⟩ : ∃ wo : World, wo = wr := ⟨_, rfl⟩
      go_wp2
      go_loopw [8, 28] (fun cr k wr => ∃ (kn cn : Nat) (os : List Nat), kn ≤ ys.length ∧ k = .int .i64 kn ∧ cr = .int .u64 cn ∧ wr.ownsRow w.heap.size 145 1 (.slice (some ⟨w.heap.size, 0, none⟩) (xs.length + ys.length + 1) (xs.length + ys.length + 1)) (xs.length + ys.length + 1) (us .u64 os) ∧ RowInv 1000000000 (xs.length + ys.length + 1) (val 1000000000 (xs.take i) * val 1000000000 ys + 1000000000 ^ i * (a * val 1000000000 (ys.take kn))) (i + kn) cn os ∧ Below w.heap.size w wr)
        (fun _ k _ => ys.length - (intOf k).toNat)
      case atStart => exact ⟨0, 0, os, Nat.zero_le _, rfl, rfl, hown, HR.out, hbel⟩
      case round =>
        clear hown HR hca
        obtain ⟨k, cn, os, hk, rfl, rfl, hown, hinv, hbel⟩ := hrel
        have hcl := hinv.lt
        have hol := hinv.len
        by_cases hky : k < ys.length
        · obtain ⟨ad', b, rfl, hb', hyb, hcb⟩ := (h'.below hbel).at_ (j := k) hky
          have hbb : b < 1000000000 := DY.out b (List.mem_of_getElem? hyb)
          have hpl : i + k < os.length := by omega
          obtain ⟨o, ho⟩ : ∃ o, os[i + k]? = some o := ⟨_, List.getElem?_eq_getElem hpl⟩
          have hob : o < 1000000000 := hinv.dig o (List.mem_of_getElem? ho)
          have hco : wr.cell? ⟨w.heap.size, i + k, none⟩ = some (.int .u64 (o : Int)) := by rw [hown.cellAt (i + k) (by omega), us_get, ho]; rfl
          have hfo : wr.frozen? ⟨w.heap.size, i + k, none⟩ = false := hown.frozenAt _
          obtain ⟨hsq, hpr⟩ := sq_lt hcl hob hab hbb
          have hst := hinv.step ho hsq
          rw [show val 1000000000 (xs.take i) * val 1000000000 ys + 1000000000 ^ i * (a * val 1000000000 (ys.take k)) + 1000000000 ^ (i + k) * (a * b) = val 1000000000 (xs.take i) * val 1000000000 ys + 1000000000 ^ i * (a * val 1000000000 (ys.take (k + 1))) by
            rw [val_take_succ, hyb, Option.getD_some, Nat.mul_add, Nat.mul_add, Nat.pow_add]
            rw [show a * (1000000000 ^ k * b) = 1000000000 ^ k * (a * b) by rw [Nat.mul_left_comm]]
            rw [Nat.mul_assoc (1000000000 ^ i)]; omega] at hst
          have HS := Lib.hid hst; clear hst hyb ho hsq hinv
          have hp0 : (0 : Int) ≤ (a : Int) * (b : Int) := Int.mul_nonneg (by omega) (by omega)
          have hp1 : (a : Int) * (b : Int) ≤ 999999998000000001 := by
            have : ((a * b : Nat) : Int) ≤ 999999998000000001 := by omega
            simpa using this
          go_wp2
          go_roundw
          case rel =>
            have hs1 := (hown.stored (i + k) (.int .u64 (((cn + (o + a * b)) % 1000000000 : Nat) : Int))).1
            rw [← us_set] at hs1
            exact ⟨k + 1, (cn + (o + a * b)) / 1000000000, _, by omega, by go_num, rfl, hs1, HS.out, hbel.setCell (p := ⟨w.heap.size, i + k, none⟩) (Nat.le_refl _) _⟩
          case measure => simp [intOf] <;> omega
        · obtain rfl : k = ys.length := by omega
          have hrow : RowInv 1000000000 (xs.length + ys.length + 1) (val 1000000000 (xs.take (i + 1)) * val 1000000000 ys) (i + ys.length) cn os := by
            rw [← HN.out, ← List.take_length (l := ys)]
            simpa using hinv
          have hT : val 1000000000 (xs.take (i + 1)) * val 1000000000 ys < 1000000000 ^ (i + 1 + ys.length) := by
            rcases prod_lt DX.out DY.out (i + 1) with h1 | h1
            · exact h1
            · cases h1
          have HT := Lib.hid hT; clear hT
          have HR := Lib.hid hrow; clear hrow hinv hol
          obtain ⟨wi, rfl⟩ : ∃ wi : World, wi = wr := ⟨_, rfl⟩
          go_wp2
          go_loopw [8, 11] (fun cr p wr => ∃ (pn cn : Nat) (os : List Nat), pn ≤ xs.length + ys.length + 1 ∧ p = .int .i64 pn ∧ cr = .int .u64 cn ∧ wr.ownsRow w.heap.size 145 1 (.slice (some ⟨w.heap.size, 0, none⟩) (xs.length + ys.length + 1) (xs.length + ys.length + 1)) (xs.length + ys.length + 1) (us .u64 os) ∧ RowInv 1000000000 (xs.length + ys.length + 1) (val 1000000000 (xs.take (i + 1)) * val 1000000000 ys) pn cn os ∧ Below w.heap.size w wr)
            (fun _ p _ => xs.length + ys.length + 1 - (intOf p).toNat)
          case atStart => exact ⟨i + ys.length, cn, os, by omega, by go_num, rfl, hown, HR.out, hbel⟩
          case round =>
            clear hown HR
            obtain ⟨p, cn, os, hp, rfl, rfl, hown, hinv, hbel⟩ := hrel
            have hcl := hinv.lt
            have hol := hinv.len
            by_cases hc0 : 0 < cn
            · have hroom := hinv.room (by decide) HT.out hc0
              have hpl : p < os.length := by omega
              obtain ⟨o, ho⟩ : ∃ o, os[p]? = some o := ⟨_, List.getElem?_eq_getElem hpl⟩
              have hob : o < 1000000000 := hinv.dig o (List.mem_of_getElem? ho)
              have hco : wr.cell? ⟨w.heap.size, p, none⟩ = some (.int .u64 (o : Int)) := by rw [hown.cellAt p (by omega), us_get, ho]; rfl
              have hfo : wr.frozen? ⟨w.heap.size, p, none⟩ = false := hown.frozenAt _
              have hst := hinv.step (a := 0) (b := 0) ho (by omega)
              simp only [Nat.mul_zero, Nat.add_zero] at hst
              have HS := Lib.hid hst; clear hst ho hinv hol
              go_wp2
              go_roundw
              case rel =>
                have hs1 := (hown.stored p (.int .u64 (((cn + o) % 1000000000 : Nat) : Int))).1
                rw [← us_set] at hs1
                exact ⟨p + 1, (cn + o) / 1000000000, _, by omega, by go_num, rfl, hs1, HS.out, hbel.setCell (p := ⟨w.heap.size, p, none⟩) (Nat.le_refl _) _⟩
              case measure => simp [intOf] <;> omega
            · obtain rfl : cn = 0 := by omega
              have hrow : RowInv 1000000000 (xs.length + ys.length + 1) (val 1000000000 (xs.take (i + 1)) * val 1000000000 ys) 0 0 os := by
                obtain ⟨h1, h2, h3, h4⟩ := hinv
                exact ⟨h1, h2, h3, by simpa using h4⟩
              have HR := Lib.hid hrow; clear hrow hinv hol
              go_wp2
              go_roundw
              case rel => exact ⟨i + 1, os, by omega, by go_num, hown, HR.out, hbel⟩
              case measure => simp [intOf] <;> omega
    · obtain rfl : i = xs.length := by omega
      have hfin : trimL os = P := by
        obtain ⟨h1, h2, h3, h4⟩ := hinv
        rw [List.take_length] at h4
        rw [HP.out, trim_pcs' (by decide) h2, ← h4]; simp
      have HF := Lib.hid hfin; clear hfin
      have hol := hinv.len
      have hown1 : Own .u64 145 wr w.heap.size (.slice (some ⟨w.heap.size, 0, none⟩) (xs.length + ys.length + 1) (xs.length + ys.length + 1)) os := by unfold Own; rw [hol]; exact hown
      have hU : IsU .u64 wr wr.heap.size (some ⟨w.heap.size, 0, none⟩) (xs.length + ys.length + 1) (xs.length + ys.length + 1) os := ⟨hol, Nat.le_refl _, Reads.of_own hown⟩
      clear hol hinv hown hown1
      go_wp2_with (go_at_call 109; refine (trim_any _ _ _ _ _ hU (by omega)).mono ?_; rintro e w' ⟨rfl, rfl⟩)
      go_ret
      have hT := hU.trim
      rw [HF.out] at hT
      exact ⟨⟨_, _, _, by rw [HF.out]; rfl, hT, fun ad e => by cases e; exact Nat.le_refl _⟩, hbel⟩

end Go.Proofs.YtgfgpepdkffhbaaGreatDoor.Kl
