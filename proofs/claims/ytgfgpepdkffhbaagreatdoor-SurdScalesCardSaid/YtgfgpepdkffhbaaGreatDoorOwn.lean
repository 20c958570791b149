/- Rows of numbers that a call itself makes: after the library's own law on append, in words of lists of numbers. -/
import Derived.Test.YtgfgpepdkffhbaaGreatDoorProg
import Derived.Test.YtgfgpepdkffhbaaGreatDoorNums
import Derived.Test.YtgfgpepdkffhbaaGreatDoorMem
import Derived.WalkKit
import Derived.Maps.AppendAt
namespace Go.Proofs.YtgfgpepdkffhbaaGreatDoor.Kl
open Go.RowKit
set_option linter.unusedVariables false
set_option linter.unusedSimpArgs false

theorem info_u64 : (Tryz.prog.info? 145).map (fun i => (i.zero, i.size, i.bytes)) = some (some (.int .u64 0), 1, 8) := by kernel_rfl
theorem info_int : (Tryz.prog.info? 3).map (fun i => (i.zero, i.size, i.bytes)) = some (some (.int .i64 0), 1, 8) := by kernel_rfl

/-- the value v owns the row of the numbers xs. -/
def Own (k : IntKind) (e : TypeId) (w : World) (base : Nat) (v : Value) (xs : List Nat) : Prop := w.ownsRow base e 1 v xs.length (us k xs)

section
variable {k : IntKind} {e : TypeId} {w w' : World} {base : Nat} {v : Value} {xs : List Nat}
theorem Own.row (h : Own k e w base v xs) : w.ownsRow base e 1 v xs.length (us k xs) := h
theorem Own.nil (k : IntKind) (e : TypeId) (w : World) (base : Nat) : Own k e w base (.slice none 0 0) [] := World.ownsRow_nil _ _ _ _
theorem Own.snoc {v' : Value} {x : Nat} (h : w'.ownsRow base e 1 v' (xs.length + 1) (us k xs ++ [.int k (x : Int)])) : Own k e w' base v' (xs ++ [x]) := by
  unfold Own
  rw [us_append, List.length_append]
  exact h
theorem Own.form (h : Own k e w base v xs) : ∃ A c, v = .slice A xs.length c ∧ IsU k w w.heap.size A xs.length c xs := by
  rcases h.2 with ⟨rfl, h0⟩ | ⟨g, cap, cur, rfl, hg, hh, hn, _⟩
  · have h00 : xs = [] := List.eq_nil_of_length_eq_zero h0
    subst h00
    exact ⟨none, 0, rfl, IsU.nil _ _ _ _ _⟩
  · exact ⟨_, cap, rfl, rfl, hn, Reads.of_own h⟩
theorem Own.form' {n : Nat} (h : Own k e w base v xs) (hn : xs.length = n) : ∃ A c, v = .slice A n c ∧ IsU k w w.heap.size A n c xs := by subst hn; exact h.form
theorem Own.isU {A : Option Addr} {n c : Nat} (h : Own k e w base (.slice A n c) xs) : IsU k w w.heap.size A n c xs := by
  obtain ⟨A', c', e', hU⟩ := h.form
  injection e' with h1 h2 h3
  subst h1 h2 h3
  exact hU
theorem Own.alloc (h : Own k e w base v xs) (o : Obj) : Own k e (w.alloc o) base v xs := World.ownsRow.alloc h o
theorem own_base' (h : Own k e w base v xs) : ∀ g, v.ownBlock = some g → base ≤ g := fun g hg => by
  rcases h.2 with ⟨rfl, _⟩ | ⟨g', cap, cur, rfl, hb, _⟩
  · simp [Value.ownBlock] at hg
  · have : g' = g := by simpa [Value.ownBlock] using hg
    omega
theorem lt_of_heap {w : World} {g : Nat} {o : Obj} (h : w.heap[g]? = some o) : g < w.heap.size := by
  rcases Nat.lt_or_ge g w.heap.size with h1 | h1
  · exact h1
  · rw [Array.getElem?_eq_none h1] at h; cases h
theorem Own.fresh {A : Option Addr} {n c : Nat} (h : Own k e w base (.slice A n c) xs) : Fresh base A := by
  rcases h.2 with ⟨hv, _⟩ | ⟨g, cap, cur, hv, hb, _⟩
  · injection hv with h1; subst h1; exact Fresh.none_ _
  · injection hv with h1; subst h1
    intro ad e
    cases e
    exact hb
theorem Own.keep (h : Own k e w base v xs) (hk : ∀ g, g < w.heap.size → base ≤ g → w'.heap[g]? = w.heap[g]?) : Own k e w' base v xs := by
  obtain ⟨h1, h2⟩ := h
  refine ⟨h1, ?_⟩
  rcases h2 with h2 | ⟨g, cap, cur, rfl, hg, hh, r⟩
  · exact .inl h2
  · exact .inr ⟨g, cap, cur, rfl, hg, (hk g (lt_of_heap hh) hg).trans hh, r⟩
theorem Own.below (h : Own k e w base v xs) (hb : Below w.heap.size w w') : Own k e w' base v xs := h.keep fun g hg _ => hb.block g hg
theorem Own.lower {base' : Nat} (h : Own k e w base v xs) (hb : base' ≤ base) : Own k e w base' v xs := by
  obtain ⟨h1, h2⟩ := h
  refine ⟨h1, ?_⟩
  rcases h2 with h2 | ⟨g, cap, cur, rfl, hg, r⟩
  · exact .inl h2
  · exact .inr ⟨g, cap, cur, rfl, by omega, r⟩
end

theorem val_take_succ (B : Nat) (xs : List Nat) (k : Nat) : val B (xs.take (k + 1)) = val B (xs.take k) + B ^ k * (xs[k]?.getD 0) := by
  rcases Nat.lt_or_ge k xs.length with h | h
  · rw [List.take_add_one, List.getElem?_eq_getElem h, val_append]
    simp [val, List.length_take, Nat.min_eq_left (Nat.le_of_lt h)]
  · rw [List.take_of_length_le (by omega), List.take_of_length_le h, List.getElem?_eq_none h]; simp

end Go.Proofs.YtgfgpepdkffhbaaGreatDoor.Kl
