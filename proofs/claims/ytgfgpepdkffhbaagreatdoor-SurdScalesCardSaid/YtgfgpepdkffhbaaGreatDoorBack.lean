/- slices.Backward at pieces: the iterator's contract. -/
import Derived.RangeFuncBox
import Derived.RangeFuncLeaves
import Derived.RangeFuncNested
import Derived.RangeFuncBound
import Derived.RangeFuncCalls
import Derived.Shelf.Abstract
import Derived.WalkKit
import Derived.OwnWalkIn
import Derived.TacticsInMore
import Derived.LoopNIn
import Derived.LoopIn
import Derived.Test.YtgfgpepdkffhbaaGreatDoorProg
import Derived.Test.YtgfgpepdkffhbaaGreatDoorMem
import Derived.Test.YtgfgpepdkffhbaaGreatDoorNums
import Derived.Lib.Hide
namespace Go.Proofs.YtgfgpepdkffhbaaGreatDoor.Kl
open Go.RowKit Go.Shelf
set_option linter.unusedVariables false
set_option linter.unusedSimpArgs false
attribute [local go_sem] Oper.semAt_some

/-- what has come when k rounds are over: the places and the pieces, from the last one down. -/
def bwd (xs : List Nat) (k : Nat) : List (Nat × Nat) := (List.range k).map fun j => (xs.length - 1 - j, xs[xs.length - 1 - j]?.getD 0)
theorem bwd_succ (xs : List Nat) (k : Nat) : bwd xs (k + 1) = bwd xs k ++ [(xs.length - 1 - k, xs[xs.length - 1 - k]?.getD 0)] := by simp [bwd, List.range_succ]
theorem bwd_length (xs : List Nat) (k : Nat) : (bwd xs k).length = k := by simp [bwd]

/-- what a round keeps: what lies below n₀, and the box of the slice. -/
def KeepB (n₀ Bs : Nat) (W W' : World) : Prop := Below n₀ W W' ∧ W'.heap[Bs]? = W.heap[Bs]?

/-- a place and a piece. -/
abbrev PieceAt (len : Nat) := { p : Nat × Nat // p.1 < len ∧ p.2 < 1000000000 }
def encB {len : Nat} (x : PieceAt len) : Array Value := #[.int .i64 (x.1.1 : Int), .int .u64 (x.1.2 : Int)]
def vals {len : Nat} (l : List (PieceAt len)) : List (Nat × Nat) := l.map Subtype.val
theorem vals_snoc {len : Nat} (l : List (PieceAt len)) (x : PieceAt len) : vals (l ++ [x]) = vals l ++ [x.1] := by simp [vals]
theorem vals_length {len : Nat} (l : List (PieceAt len)) : (vals l).length = l.length := by simp [vals]

set_option maxRecDepth 100000 in
set_option maxHeartbeats 2000000 in
theorem back1_in (F : Fence) (n : Nat) (hf : F.fn 129) (hro : F.round = none) (hn : 1 ≤ n) (l Bs n₀ len c : Nat) (A : Option Addr) (xs : List Nat) (hreach : len ≤ 140737488351232) (hdig : Dig 1000000000 xs) (J Jx : List (PieceAt len) → World → Prop)
    (hY : ∀ pre x W, J pre W → pre.length < len → YieldAt F (n - 1) Tryz.prog l (encB x) W fun e W' =>
      (e = .returned (.bool true) ∧ J (pre ++ [x]) W' ∧ KeepB n₀ Bs W W') ∨ (e = .returned (.bool false) ∧ Jx (pre ++ [x]) W'))
    (W : World) (hBs : W.heap[Bs]? = some (.cells #[.slice A len c] 109 (0, 0))) (hI : IsU .u64 W n₀ A len c xs) (h0 : J [] W) :
    CallsIn F n Tryz.prog 129 #[.func (.yield l) #[] #[], .pointer (some ⟨Bs, 0, none⟩)] W fun e W' => (∃ v, e = .returned v) ∧
      ((∃ ys, vals ys = bwd xs len ∧ J ys W') ∨ (∃ pre, (∃ k, k ≤ len ∧ vals pre = bwd xs k) ∧ Jx pre W')) := by
  have hlen := hI.len
  have hcB : W.cell? ⟨Bs, 0, none⟩ = some (.slice A len c) := by simp [World.cell?, hBs]
  have HL := Lib.hid hlen; clear hlen
  have HD := Lib.hid hdig; clear hdig
  refine callsIn_of_wp Tryz.func129 rfl hf ?_ hro
  simp only [Tryz.ntmps129, List.size_toArray, List.length_cons, List.length_nil, Nat.reduceAdd, Nat.reduceSub, Array.replicate_succ, Array.replicate_zero, List.push_toArray, List.append_toArray, List.nil_append, List.cons_append]
  gi_wp2
  gi_loopw [3] (fun i wr => ∃ (k : Nat) (ys : List (PieceAt len)), k ≤ len ∧ i = .int .i64 ((len : Int) - 1 - (k : Int)) ∧ vals ys = bwd xs k ∧ J ys wr ∧ KeepB n₀ Bs W wr)
    (fun i _ => (intOf i + 1).toNat)
  case atStart => exact ⟨0, [], Nat.zero_le _, by simp, rfl, h0, Below.refl _ _, rfl⟩
  case round =>
    obtain ⟨k, ys, hk, rfl, hys, hJs, hnx⟩ := hrel
    have hyl : ys.length = k := by rw [← vals_length, hys, bwd_length]
    have HY := Lib.hid hys; clear hys
    have HYL := Lib.hid hyl; clear hyl
    have hcx : wr.cell? ⟨Bs, 0, none⟩ = some (.slice A len c) := by simp [World.cell?, hnx.2, hBs]
    by_cases hlt : k < len
    · obtain ⟨p, hp⟩ : ∃ p, p = len - 1 - k := ⟨_, rfl⟩
      obtain ⟨ad, a, rfl, hb, hxa, hca⟩ := (hI.below hnx.1).at_ (j := p) (by omega)
      have hab : a < 1000000000 := HD.out a (List.mem_of_getElem? hxa)
      have hpa : p < len ∧ a < 1000000000 := ⟨by omega, hab⟩
      obtain ⟨fn, tmps, assign, body, hy, hR⟩ := hY _ ⟨(p, a), hpa⟩ wr hJs (by rw [HYL.out]; exact hlt)
      have hidx : (len : Int) - 1 - (k : Int) = (p : Int) := by omega
      have hlx : p < len := by omega
      have hs : vals (ys ++ [⟨(p, a), hpa⟩]) = bwd xs (k + 1) := by rw [vals_snoc, HY.out, bwd_succ, HL.out, ← hp, hxa]; rfl
      have HS := Lib.hid hs; clear hs hxa
      rw [hidx]
      have HP := Lib.hid hp; clear hp hidx
      dsimp only [encB] at hy
      gi_wp2
      refine hR.mono ?_
      rintro e W3 (⟨rfl, hJ3, hk3⟩ | ⟨rfl, hJx3⟩)
      · gi_wp2
        go_roundw
        case rel => exact ⟨k + 1, _, by omega, by have := HP.out; congr 1; omega, HS.out, hJ3, hnx.1.trans hk3.1, hk3.2.trans hnx.2⟩
        case measure => simp [intOf] <;> omega
      · gi_wp2
        refine bodyPost_ret (results_none rfl _ _ _) rfl ?_
        exact ⟨⟨_, rfl⟩, .inr ⟨_, ⟨k + 1, by omega, HS.out⟩, hJx3⟩⟩
    · obtain rfl : k = len := by omega
      have hneg : ¬ (0 : Int) ≤ (k : Int) - 1 - (k : Int) := by omega
      gi_wp2
      go_end0
      exact ⟨⟨_, rfl⟩, .inl ⟨ys, HY.out, hJs⟩⟩

set_option maxHeartbeats 1000000 in
theorem back_in (F : Fence) (n : Nat) (hf : F.fn 111) (hro : F.round = none) (A : Option Addr) (len c : Nat) (w : World) :
    CallsIn F n Tryz.prog 111 #[.slice A len c] w fun e w' => e = .returned (.func (.func 129) #[] #[.pointer (some ⟨w.heap.size, 0, none⟩)]) ∧ w' = w.alloc (.cells #[.slice A len c] 109) := by
  refine callsIn_of_wp Tryz.func111 rfl hf ?_ hro
  simp only [Tryz.ntmps111, List.size_toArray, List.length_cons, List.length_nil, Nat.reduceAdd, Nat.reduceSub, Array.replicate_succ, Array.replicate_zero, List.push_toArray, List.append_toArray, List.nil_append, List.cons_append]
  gi_wp2
  go_ret
  exact ⟨rfl, rfl⟩

/-- slices.Backward hands back a value that yields the pieces from the last one down. -/
theorem back_stops (F : Fence) (n : Nat) (hf : F.fn 129) (hro : F.round = none) (hn : 1 ≤ n) (Bs n₀ len c : Nat) (A : Option Addr) (xs : List Nat) (hreach : len ≤ 140737488351232) (hdig : Dig 1000000000 xs) (w : World)
    (hBs : w.heap[Bs]? = some (.cells #[.slice A len c] 109 (0, 0))) (hn₀ : n₀ ≤ w.heap.size) (hI : IsU .u64 w n₀ A len c xs) :
    SeqStopsK F n Tryz.prog 129 #[.pointer (some ⟨Bs, 0, none⟩)] (encB (len := len)) (KeepB n₀ Bs) (fun ys => vals ys = bwd xs len) (fun pre => ∃ k, k ≤ len ∧ vals pre = bwd xs k) len w := fun l J Jx W hW _ _ hY h0 => by
  have hlt : Bs < w.heap.size := (Array.getElem?_eq_some_iff.1 hBs).1
  exact back1_in F n hf hro hn l Bs n₀ len c A xs hreach hdig J Jx hY W ((hW.block Bs hlt).trans hBs) (hI.below (hW.mono hn₀)) h0

end Go.Proofs.YtgfgpepdkffhbaaGreatDoor.Kl
