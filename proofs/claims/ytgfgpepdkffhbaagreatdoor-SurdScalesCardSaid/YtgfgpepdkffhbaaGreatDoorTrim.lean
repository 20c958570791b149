/- The walks of integer.trim and integer.order: pieces without zeros at their end; which of two numbers is the greater. -/
import Derived.Test.YtgfgpepdkffhbaaGreatDoorProg
import Derived.Test.YtgfgpepdkffhbaaGreatDoorNums
import Derived.Test.YtgfgpepdkffhbaaGreatDoorMem
import Derived.WalkKit
import Derived.BigQuiet
import Derived.Deep.QuietTactic
import Derived.WalkSpells
import Derived.Lib.Hide
import Derived.Outline
namespace Go.Proofs.YtgfgpepdkffhbaaGreatDoor.Kl
open Go.RowKit
set_option linter.unusedVariables false
set_option linter.unusedSimpArgs false

theorem trimL_take_succ {xs : List Nat} {k x : Nat} (hk : xs[k]? = some x) (hx : x ≠ 0) : trimL (xs.take (k + 1)) = xs.take (k + 1) := by
  rw [List.take_add_one, hk]; exact trimL_snoc_pos _ hx
theorem trimL_take_zero {xs : List Nat} {k : Nat} (hk : xs[k]? = some 0) : trimL (xs.take (k + 1)) = trimL (xs.take k) := by
  rw [List.take_add_one, hk]; exact trimL_snoc_zero _

/-- what trim leaves: a slice of the same row, cut at its end. -/
def TrimTo (A : Option Addr) (c : Nat) (xs : List Nat) (k : Nat) (v : Value) : Prop := k ≤ xs.length ∧ trimL (xs.take k) = trimL xs ∧ v = .slice A k c

set_option maxHeartbeats 400000 in
theorem trim_any (A : Option Addr) (n c : Nat) (xs : List Nat) (w : World) (h : IsU .u64 w w.heap.size A n c xs) (hm : n ≤ 35184372088832) :
    Calls Tryz.prog 109 #[.slice A n c] w fun e w' => e = .returned (.slice A (trimL xs).length c) ∧ w = w' := by
  obtain rfl : xs.length = n := h.len
  have hcap := h.cap
  go_enter Tryz.func109, Tryz.ntmps109
  go_wp2
  go_loop [0] (fun v => ∃ k : Nat, TrimTo A c xs k v) (fun v => match v with | .slice _ k _ => k | _ => 0)
  case atStart => exact ⟨xs.length, Nat.le_refl _, by rw [List.take_length], rfl⟩
  case round =>
    obtain ⟨k, hk, ht, rfl⟩ := hrel
    by_cases h0 : 0 < k
    · obtain ⟨ad, x, rfl, hb, hx, hc⟩ := h.at_ (j := k - 1) (by omega)
      have e1 : k - 1 + 1 = k := by omega
      by_cases hx0 : x = 0
      · have ht' : trimL (xs.take (k - 1)) = trimL xs := by subst hx0; rw [← ht, ← trimL_take_zero hx, e1]
        have HT := Lib.hid ht'; clear ht' ht e1
        go_wp2
        exact ⟨⟨k - 1, by omega, HT.out, rfl⟩, by show k - 1 < k; omega⟩
      · have ht' : (trimL xs).length = k := by rw [← ht, ← e1, trimL_take_succ hx hx0, List.length_take]; omega
        have HT := Lib.hid ht'; clear ht' ht e1
        go_wp2
        go_ret
        exact ⟨by rw [HT.out]; rfl, rfl⟩
    · have h00 : k = 0 := by omega
      have ht' : (trimL xs).length = k := by rw [← ht, h00]; rfl
      have HT := Lib.hid ht'; clear ht' ht h00
      go_wp2
      go_ret
      exact ⟨by rw [HT.out]; rfl, rfl⟩

/-- what remains is the row's beginning. -/
theorem trimL_prefix (xs : List Nat) : trimL xs = xs.take (trimL xs).length := by
  refine List.prefix_iff_eq_take.1 ?_
  have h := List.dropWhile_suffix (l := xs.reverse) (fun x => x == 0)
  have := List.reverse_prefix.2 h
  rwa [List.reverse_reverse] at this
theorem trimL_le (xs : List Nat) : (trimL xs).length ≤ xs.length := by
  have := trimL_prefix xs
  have h2 := congrArg List.length this
  rw [List.length_take] at h2
  omega
theorem IsU.trim {k : IntKind} {w : World} {B n c : Nat} {A : Option Addr} {xs : List Nat} (h : IsU k w B A n c xs) : IsU k w B A (trimL xs).length c (trimL xs) := by
  have := h.front (j := (trimL xs).length) (by have := trimL_le xs; have := h.len; omega)
  rwa [← trimL_prefix] at this

/-- comparing numbers, as Go's functions say it. -/
def cmpN (x y : Nat) : Int := if x < y then -1 else if x = y then 0 else 1

theorem below_drewN {B : Nat} {a w : World} (h : Below B a w) (n : Nat) : Below B a (w.drewN n) := ⟨h.os, h.tape, h.output, h.size, h.block⟩

theorem split_at {xs : List Nat} {k a : Nat} (hk : xs[k]? = some a) : xs = (xs.take k ++ [a]) ++ xs.drop (k + 1) := by
  obtain ⟨h, e⟩ := List.getElem?_eq_some_iff.1 hk
  subst e
  simp

theorem val_lt_at {B : Nat} {xs ys : List Nat} {k a b : Nat} (hx : Dig B xs) (hl : xs.length = ys.length) (ha : xs[k]? = some a) (hb : ys[k]? = some b) (hd : xs.drop (k + 1) = ys.drop (k + 1)) (h : a < b) : val B xs < val B ys := by
  have hkx : k < xs.length := (List.getElem?_eq_some_iff.1 ha).1
  have ex : val B xs = val B (xs.take k ++ [a]) + B ^ (k + 1) * val B (xs.drop (k + 1)) := by
    have := congrArg (val B) (split_at ha)
    rw [val_append, show (xs.take k ++ [a]).length = k + 1 by simp [List.length_take]; omega] at this
    exact this
  have ey : val B ys = val B (ys.take k ++ [b]) + B ^ (k + 1) * val B (xs.drop (k + 1)) := by
    have := congrArg (val B) (split_at hb)
    rw [val_append, show (ys.take k ++ [b]).length = k + 1 by simp [List.length_take]; omega, ← hd] at this
    exact this
  rw [ex, ey]
  have := val_lt_of_last (x := a) (y := b) (hx.take k) (show (xs.take k).length = (ys.take k).length by simp [List.length_take, hl]) h
  omega

/-- the relation of order's loop. -/
def OrdRel (xs ys : List Nat) (v : Value) : Prop := ∃ i : Int, v = .int .i64 i ∧ -1 ≤ i ∧ i < xs.length ∧ xs.drop (i + 1).toNat = ys.drop (i + 1).toNat

set_option maxHeartbeats 800000 in
theorem order_any (A A' : Option Addr) (n n' c c' : Nat) (x y : Nat) (w : World) (h : IsU .u64 w w.heap.size A n c (pcs 1000000000 x)) (h' : IsU .u64 w w.heap.size A' n' c' (pcs 1000000000 y))
    (hm : n ≤ 35184372088832) (hm' : n' ≤ 35184372088832) :
    Calls Tryz.prog 90 #[.slice A n c, .slice A' n' c'] w fun e w' => e = .returned (.int .i64 (cmpN x y)) ∧ Below w.heap.size w w' := by
  obtain rfl := h.len
  obtain rfl := h'.len
  have dx := dig_pcs (B := 1000000000) (by decide) x
  have dy := dig_pcs (B := 1000000000) (by decide) y
  have vx := val_pcs (B := 1000000000) (by decide) x
  have vy := val_pcs (B := 1000000000) (by decide) y
  have lx := lt_of_len_lt (B := 1000000000) (by decide) (m := x) (n := y)
  have ly := lt_of_len_lt (B := 1000000000) (by decide) (m := y) (n := x)
  have bx : pcs 1000000000 x = pcs 1000000000 y → x = y := fun e => by rw [← vx, e, vy]
  generalize pcs 1000000000 x = xs at *
  generalize pcs 1000000000 y = ys at *
  have VX := Lib.hid vx; clear vx
  have VY := Lib.hid vy; clear vy
  have LX := Lib.hid lx; clear lx
  have LY := Lib.hid ly; clear ly
  have BX := Lib.hid bx; clear bx
  have DX := Lib.hid dx; clear dx
  have DY := Lib.hid dy; clear dy
  by_cases hlen : xs.length = ys.length
  · have HL := Lib.hid hlen
    have hne : ((xs.length : Int) != (ys.length : Int)) = false := by simp [hlen]
    have hle1 : xs.length ≤ ys.length := by omega
    have hle2 : ys.length ≤ xs.length := by omega
    clear hlen
    go_enter Tryz.func90, Tryz.ntmps90
    go_wp2
    go_loopw [5] (fun v wr => OrdRel xs ys v ∧ Below w.heap.size w wr) (fun v _ => (intOf v + 1).toNat)
    case atStart => exact ⟨⟨(xs.length : Int) - 1, rfl, by omega, by omega, by rw [show ((xs.length : Int) - 1 + 1).toNat = xs.length by omega, List.drop_length, List.drop_eq_nil_of_le (by omega)]⟩, Below.refl _ _⟩
    case round =>
      obtain ⟨⟨i, rfl, hi1, hi2, hd⟩, hbel⟩ := hrel
      have HD := Lib.hid hd; clear hd
      by_cases h0 : 0 ≤ i
      · obtain ⟨j, rfl⟩ := Int.eq_ofNat_of_zero_le h0
        obtain ⟨ad, a, rfl, hb, hxa, hca⟩ := (h.below hbel).at_ (j := j) (by omega)
        obtain ⟨ad', b, rfl, hb', hyb, hcb⟩ := (h'.below hbel).at_ (j := j) (by omega)
        have hxl : (j : Int) < xs.length := by omega
        have hyl : (j : Int) < ys.length := by omega
        by_cases hab : a = b
        · have hd' : xs.drop (((j : Int) - 1 + 1).toNat) = ys.drop (((j : Int) - 1 + 1).toNat) := by
            have := HD.out
            rw [show ((j : Int) - 1 + 1).toNat = j by omega]
            rw [show ((j : Int) + 1).toNat = j + 1 by omega] at this
            have e1 := congrArg (List.drop j) (split_at hxa)
            have e2 := congrArg (List.drop j) (split_at hyb)
            obtain ⟨q1, f1⟩ := List.getElem?_eq_some_iff.1 hxa
            obtain ⟨q2, f2⟩ := List.getElem?_eq_some_iff.1 hyb
            rw [List.drop_eq_getElem_cons q1, List.drop_eq_getElem_cons q2, f1, f2, this, hab]
          have HD' := Lib.hid hd'; clear hd' hxa hyb
          have hne2 : ((a : Int) != (b : Int)) = false := by simp [hab]
          clear hab
          go_wp2
          go_quiet (fail)
          go_wp2
          go_roundw
          case rel => exact ⟨⟨(j : Int) - 1, rfl, by omega, by omega, HD'.out⟩, below_drewN hbel _⟩
          case measure => simp [intOf] <;> omega
        · have hne2 : ((a : Int) != (b : Int)) = true := by simp; omega
          have hdj : xs.drop (j + 1) = ys.drop (j + 1) := by
            have := HD.out
            rwa [show ((j : Int) + 1).toNat = j + 1 by omega] at this
          by_cases hlt : a < b
          · have fin : cmpN x y = -1 := by
              have := val_lt_at DX.out HL.out hxa hyb hdj hlt
              rw [VX.out, VY.out] at this
              simp [cmpN, this]
            have FIN := Lib.hid fin; clear fin hdj hxa hyb
            go_wp2
            go_quiet (fail)
            go_wp2
            go_quiet (fail)
            go_wp2
            go_ret
            exact ⟨by rw [FIN.out]; rfl, below_drewN (below_drewN hbel _) _⟩
          · have fin : cmpN x y = 1 := by
              have := val_lt_at DY.out HL.out.symm hyb hxa hdj.symm (show b < a by omega)
              rw [VX.out, VY.out] at this
              unfold cmpN; rw [if_neg (by omega), if_neg (by omega)]
            have FIN := Lib.hid fin; clear fin hdj hxa hyb
            go_wp2
            go_quiet (fail)
            go_wp2
            go_quiet (fail)
            go_wp2
            go_ret
            exact ⟨by rw [FIN.out]; rfl, below_drewN (below_drewN hbel _) _⟩
      · have fin : cmpN x y = 0 := by
          have := HD.out
          rw [show (i + 1).toNat = 0 by omega] at this
          have := BX.out this
          unfold cmpN; rw [if_neg (by omega), if_pos this]
        have FIN := Lib.hid fin; clear fin
        go_wp2
        go_ret
        exact ⟨by rw [FIN.out]; rfl, hbel⟩
  · have hne : ((xs.length : Int) != (ys.length : Int)) = true := by simp; omega
    by_cases hlt : xs.length < ys.length
    · have fin : cmpN x y = -1 := by simp [cmpN, LX.out hlt]
      have FIN := Lib.hid fin; clear fin
      go_enter Tryz.func90, Tryz.ntmps90
      go_wp2
      go_ret
      exact ⟨by rw [FIN.out]; rfl, Below.refl _ _⟩
    · have fin : cmpN x y = 1 := by
        have := LY.out (by omega)
        unfold cmpN; rw [if_neg (by omega), if_neg (by omega)]
      have FIN := Lib.hid fin; clear fin
      go_enter Tryz.func90, Tryz.ntmps90
      go_wp2
      go_ret
      exact ⟨by rw [FIN.out]; rfl, Below.refl _ _⟩

end Go.Proofs.YtgfgpepdkffhbaaGreatDoor.Kl
