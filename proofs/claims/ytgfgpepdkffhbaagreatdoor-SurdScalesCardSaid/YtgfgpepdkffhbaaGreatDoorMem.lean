/- Words for memory: a slice that reads as a list of pieces. (After the guide's extra-words.) -/
import Derived.Below
import Derived.Laws.OwnMore
import Derived.Deep.AppendLies
import Derived.Deep.Draws
import Derived.WalkKit
namespace Go.Proofs.YtgfgpepdkffhbaaGreatDoor.Kl
set_option linter.unusedVariables false
set_option linter.unusedSimpArgs false
open Go.RowKit

theorem block_of_add (a : Addr) (n : Nat) : (a.add n).block = a.block := by unfold Addr.add; split <;> rfl
theorem add_of_add (a : Addr) (i j : Nat) : (a.add i).add j = a.add (i + j) := by
  unfold Addr.add
  by_cases hi : i = 0 <;> by_cases hj : j = 0 <;> simp [hi, hj, Nat.add_assoc]

/-- the slice's cells are xs, and lie below block B. -/
def Reads (w : World) (B size : Nat) (A : Option Addr) (n : Nat) (xs : List Value) : Prop :=
  xs.length = n * size ∧ (0 < n → ∃ ad, A = some ad ∧ ad.block < B ∧ ∀ j u, xs[j]? = some u → w.cell? (ad.add j) = some u)

section
variable {w w' : World} {B B' size n : Nat} {A : Option Addr} {xs : List Value}
theorem Reads.none_ : Reads w B size A 0 [] := ⟨by simp, fun h => absurd h (by omega)⟩
theorem Reads.at_ {k : Nat} (h : Reads w B 1 A n xs) (hk : k < n) : ∃ ad u, A = some ad ∧ ad.block < B ∧ xs[k]? = some u ∧ w.cell? (ad.add k) = some u := by
  obtain ⟨ad, e, hb, hc⟩ := h.2 (by omega)
  have hl : k < xs.length := by have := h.1; omega
  exact ⟨ad, xs[k], e, hb, List.getElem?_eq_getElem hl, hc k _ (List.getElem?_eq_getElem hl)⟩
theorem Reads.keep (h : Reads w B size A n xs) (hk : ∀ p : Addr, p.block < B → w'.cell? p = w.cell? p) : Reads w' B size A n xs :=
  ⟨h.1, fun hn => by
    obtain ⟨ad, e, hb, hc⟩ := h.2 hn
    exact ⟨ad, e, hb, fun j u hu => (hk _ (by rw [block_of_add]; exact hb)).trans (hc j u hu)⟩⟩
theorem Reads.more (h : Reads w B size A n xs) (hB : B ≤ B') : Reads w B' size A n xs :=
  ⟨h.1, fun hn => by
    obtain ⟨ad, e, hb, hc⟩ := h.2 hn
    exact ⟨ad, e, by omega, hc⟩⟩
theorem Reads.below (h : Reads w B size A n xs) (hb : Below B w w') : Reads w' B size A n xs := h.keep fun _ hp => hb.cell hp
theorem Reads.drew (h : Reads w B size A n xs) : Reads w.drew B size A n xs := h
theorem Reads.drewN (h : Reads w B size A n xs) (k : Nat) : Reads (w.drewN k) B size A n xs := h
theorem Reads.alloc (h : Reads w B size A n xs) (hB : B ≤ w.heap.size) (o : Obj) : Reads (w.alloc o) B size A n xs := h.keep fun p hp => World.cell?_alloc_lt w o p (by omega)
theorem Reads.setCell (h : Reads w B size A n xs) {p : Addr} (hB : B ≤ p.block) (u : Value) : Reads (w.setCell p u) B size A n xs :=
  h.keep fun q hq => World.cell?_setCell_other w p q u (fun e => by subst e; omega)
theorem Reads.grown (h : Reads w B size A n xs) {row : Option Nat} (hg : w.grownBy w' row) (hB : B ≤ w.heap.size) (hr : ∀ g, row = some g → B ≤ g) : Reads w' B size A n xs :=
  h.keep fun p hp => World.cell?_of_block (hg.block p.block (by omega) (fun e => by have := hr _ e.symm; omega))
theorem Reads.cut (h : Reads w B size A n xs) {k cap : Nat} (hk : k ≤ n) (hc : n ≤ cap) :
    Reads w B size (if cap = k then A else A.map (·.add (k * size))) (n - k) (xs.drop (k * size)) := by
  refine ⟨by rw [List.length_drop, h.1, Nat.sub_mul], fun hn => ?_⟩
  obtain ⟨ad, rfl, hb, hcell⟩ := h.2 (by omega)
  rw [if_neg (by omega)]
  refine ⟨ad.add (k * size), rfl, by rw [block_of_add]; exact hb, fun j u hu => ?_⟩
  rw [add_of_add]
  exact hcell _ u (by rw [← hu, List.getElem?_drop])
/-- the first k elements. -/
theorem Reads.front (h : Reads w B size A n xs) {k : Nat} (hk : k ≤ n) : Reads w B size A k (xs.take (k * size)) := by
  refine ⟨by rw [List.length_take, h.1]; exact Nat.min_eq_left (Nat.mul_le_mul_right _ hk), fun hk0 => ?_⟩
  obtain ⟨ad, rfl, hb, hcell⟩ := h.2 (by omega)
  refine ⟨ad, rfl, hb, fun j u hu => hcell j u ?_⟩
  rw [List.getElem?_take] at hu
  split at hu
  · exact hu
  · cases hu
theorem Reads.of_own {base : Nat} {e : TypeId} {c : Nat} (h : w.ownsRow base e size (.slice A n c) n xs) : Reads w w.heap.size size A n xs := by
  refine ⟨h.1, fun hn => ?_⟩
  obtain ⟨g, cap, hv, _, hlt⟩ := h.form hn
  have hA : A = some ⟨g, 0, none⟩ := by injection hv
  subst hA
  exact ⟨_, rfl, hlt, h.cells (g := g) rfl⟩
end

/-- numbers of a kind as values. -/
def us (k : IntKind) (xs : List Nat) : List Value := xs.map fun x : Nat => Value.int k (x : Int)
section
variable {k : IntKind}
theorem us_length (xs : List Nat) : (us k xs).length = xs.length := by simp [us]
theorem us_get (xs : List Nat) (j : Nat) : (us k xs)[j]? = (xs[j]?).map fun x : Nat => Value.int k (x : Int) := by simp [us]
theorem us_append (xs ys : List Nat) : us k (xs ++ ys) = us k xs ++ us k ys := by simp [us]
theorem us_take (xs : List Nat) (j : Nat) : us k (xs.take j) = (us k xs).take j := by simp [us]
theorem us_drop (xs : List Nat) (j : Nat) : us k (xs.drop j) = (us k xs).drop j := by simp [us]
theorem us_one (xs : List Nat) : ∀ u ∈ us k xs, u.oneCell' = true := fun u hu => by
  simp only [us, List.mem_map] at hu
  obtain ⟨x, _, rfl⟩ := hu
  rfl
end

/-- a slice whose row is no block below B. -/
def Fresh (B : Nat) (A : Option Addr) : Prop := ∀ ad, A = some ad → B ≤ ad.block
theorem Fresh.mono {B B' : Nat} {A : Option Addr} (h : Fresh B A) (hb : B' ≤ B) : Fresh B' A := fun ad e => Nat.le_trans hb (h ad e)
theorem Fresh.none_ (B : Nat) : Fresh B none := fun _ e => by cases e

/-- a slice of pieces, with its capacity. -/
def IsU (k : IntKind) (w : World) (B : Nat) (A : Option Addr) (n c : Nat) (xs : List Nat) : Prop := xs.length = n ∧ n ≤ c ∧ Reads w B 1 A n (us k xs)

section
variable {k : IntKind} {w w' : World} {B B' n c : Nat} {A : Option Addr} {xs : List Nat}
theorem IsU.len (h : IsU k w B A n c xs) : xs.length = n := h.1
theorem IsU.cap (h : IsU k w B A n c xs) : n ≤ c := h.2.1
theorem IsU.reads (h : IsU k w B A n c xs) : Reads w B 1 A n (us k xs) := h.2.2
theorem IsU.nil (k : IntKind) (w : World) (B : Nat) (A : Option Addr) (c : Nat) : IsU k w B A 0 c [] := ⟨rfl, Nat.zero_le _, Reads.none_⟩
theorem IsU.keep (h : IsU k w B A n c xs) (hk : ∀ p : Addr, p.block < B → w'.cell? p = w.cell? p) : IsU k w' B A n c xs := ⟨h.1, h.2.1, h.2.2.keep hk⟩
theorem IsU.more (h : IsU k w B A n c xs) (hB : B ≤ B') : IsU k w B' A n c xs := ⟨h.1, h.2.1, h.2.2.more hB⟩
theorem IsU.below (h : IsU k w B A n c xs) (hb : Below B w w') : IsU k w' B A n c xs := ⟨h.1, h.2.1, h.2.2.below hb⟩
theorem IsU.to (h : IsU k w B A n c xs) (hb : Below B w w') (hB : B ≤ w.heap.size) : IsU k w' w'.heap.size A n c xs := (h.below hb).more (by have := hb.size; omega)
theorem IsU.front (h : IsU k w B A n c xs) {j : Nat} (hk : j ≤ n) : IsU k w B A j c (xs.take j) :=
  ⟨by rw [List.length_take, h.1]; exact Nat.min_eq_left hk, by have := h.2.1; omega, by have := h.2.2.front hk; rwa [Nat.mul_one, ← us_take] at this⟩
/-- the cell of element j. -/
theorem IsU.at_ (h : IsU k w B A n c xs) {j : Nat} (hk : j < n) : ∃ ad x, A = some ad ∧ ad.block < B ∧ xs[j]? = some x ∧ w.cell? (ad.add j) = some (.int k (x : Int)) := by
  obtain ⟨ad, u, e, hb, hx, hc⟩ := h.2.2.at_ hk
  have hl : j < xs.length := by have := h.1; omega
  rw [us_get, List.getElem?_eq_getElem hl] at hx
  simp only [Option.map_some, Option.some.injEq] at hx
  subst hx
  exact ⟨ad, xs[j], e, hb, List.getElem?_eq_getElem hl, hc⟩
theorem IsU.farSet {p : Addr} {B' : Nat} (h : IsU k w B A n c xs) (hf : Fresh B' A) (hp : p.block < B') (u : Value) : IsU k (w.setCell p u) B A n c xs :=
  ⟨h.1, h.2.1, h.2.2.1, fun hn => by
    obtain ⟨ad, e, hb, hc⟩ := h.2.2.2 hn
    refine ⟨ad, e, hb, fun j v hv => ?_⟩
    have hne : p ≠ ad.add j := fun e2 => by
      have h1 := hf ad e
      have h2 := block_of_add ad j
      rw [← e2] at h2
      omega
    exact (World.cell?_setCell_other (h := hne) ..).trans (hc j v hv)⟩
theorem IsU.farBox {p : Nat} {A' : Option Addr} {n' c' : Nat} {T : TypeId} {fz : Nat × Nat} (h : IsU k w B A n c xs) (hp : w.heap[p]? = some (.cells #[.slice A' n' c'] T fz)) (u : Value) : IsU k (w.setCell ⟨p, 0, none⟩ u) B A n c xs :=
  ⟨h.1, h.2.1, h.2.2.1, fun hn => by
    obtain ⟨ad, e, hb, hc⟩ := h.2.2.2 hn
    refine ⟨ad, e, hb, fun j v hv => ?_⟩
    have hne : (⟨p, 0, none⟩ : Addr) ≠ ad.add j := fun e2 => by
      have h1 := hc j v hv
      rw [← e2] at h1
      have h2 : w.cell? ⟨p, 0, none⟩ = some (.slice A' n' c') := by simp [World.cell?, hp]
      rw [h2] at h1
      rw [us_get] at hv
      cases hx : xs[j]? with
      | none => rw [hx] at hv; cases hv
      | some x =>
        rw [hx] at hv
        simp only [Option.map_some, Option.some.injEq] at hv
        subst hv
        cases h1
    exact (World.cell?_setCell_other (h := hne) ..).trans (hc j v hv)⟩
theorem setCell_size (w : World) (p : Addr) (u : Value) : (w.setCell p u).heap.size = w.heap.size := by simp [World.setCell]
/-- a block of numbers read as a slice of itself. -/
theorem IsU.of_block {g : Nat} {T : TypeId} {fz : Nat × Nat} (hg : w.heap[g]? = some (.cells (us k xs).toArray T fz)) (hl : xs.length = n) : IsU k w w.heap.size (some ⟨g, 0, none⟩) n n xs := by
  refine ⟨hl, Nat.le_refl _, by rw [us_length, hl, Nat.mul_one], fun _ => ⟨_, rfl, (Array.getElem?_eq_some_iff.1 hg).1, fun j u hu => ?_⟩⟩
  have e : (⟨g, 0, none⟩ : Addr).add j = ⟨g, j, none⟩ := by unfold Addr.add; split <;> simp_all
  rw [e]
  simp [World.cell?, hg]
  exact hu
end

end Go.Proofs.YtgfgpepdkffhbaaGreatDoor.Kl
