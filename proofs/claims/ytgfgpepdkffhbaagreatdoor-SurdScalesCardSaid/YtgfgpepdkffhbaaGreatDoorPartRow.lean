/- A list of parts among the arguments of a statement: how it reads, ahead of the call and behind it. -/
import Derived.Test.YtgfgpepdkffhbaaGreatDoorRow
import Derived.Test.YtgfgpepdkffhbaaGreatDoorMake
import Derived.ChangeBook
import Derived.ChangeBears
import Derived.ChangeStays
import Derived.ChangeAgain
import Derived.Deep.Frames
import Derived.Deep.Slices
import Derived.Deep.Fields
import Derived.SizedLaws
namespace Go.Proofs.YtgfgpepdkffhbaaGreatDoor.Kl
open Go.ChangeShapes Go.WideShapes Go.ChangeAt Go.RowKit Go.Deep
set_option linter.unusedVariables false
set_option maxRecDepth 100000
set_option linter.unusedSimpArgs false

theorem laidOut' : laidOutB Tryz.prog = true := by kernel_rfl
theorem readParts : Tryz.prog.readableRec 41 = true := by kernel_rfl
theorem boundParts : 41 < Tryz.prog.types.size := of_decide_eq_true (by kernel_rfl)
theorem cellsPart : Tryz.prog.cellsOf 74 = 3 := by kernel_rfl
theorem cellsI8 : Tryz.prog.cellsOf 72 = 1 := by kernel_rfl
theorem cellsU8 : Tryz.prog.cellsOf 5 = 1 := by kernel_rfl

section
variable {H : Type} {enc : TypeId × Value → H}
/-- a reading stays where nothing that existed has changed. -/
theorem stays {t : TypeId} (hr : Tryz.prog.readableRec t = true) (hrow : t < Tryz.prog.types.size) {W W' : World} (hb : Below W.heap.size W W') {v : Value} {d : DataW H} {p : List MemPlace}
    (h : DataW.Trod enc Tryz.prog W 0 (fun _ => true) true t v d p) (hlt : ∀ x ∈ p, x.block < W.heap.size) (sp : Nat → Bool) (hsp : ∀ x ∈ p, sp x.block = true) : DataW.Trod enc Tryz.prog W' 0 sp true t v d p := by
  obtain ⟨n, h⟩ := h
  exact ⟨n, DataW.trod_stays (kids_book laidOut' hr) (book_sized hr) (fun h => by cases h) ⟨hrow, book_self t⟩ h
    (fun x hx => (hb.frame (fun _ => False)).sameAt (hlt x hx) (fun h => h) (fun b e => by
      have := DataW.trod_good (kids_book laidOut' hr) (fun h => by cases h) n t _ _ ⟨hrow, book_self t⟩ h x hx
      subst e
      exact this))
    hsp⟩

/-- a list of parts reads as one. -/
theorem open_parts {base : Nat} {W : World} {v : Value} (hval : Value.okWide Tryz.prog W .any base 41 v) {d : DataW H} {p : List MemPlace} (h : DataW.Trod enc Tryz.prog W 0 (fun _ => true) true 41 v d p) (hlt : ∀ x ∈ p, x.block < W.heap.size) :
    ∃ A n c ps, v = .slice A n c ∧ IsP W W.heap.size A n c ps := by
  obtain ⟨A0, n0, c0, rfl⟩ := okWide_slice Tryz.underlying41 hval
  obtain ⟨fuel, h⟩ := h
  rcases open_slice Tryz.underlying41 h with ⟨hc, _⟩ | ⟨a, len, cap, m, n, D, Pl, hcs, hb, hl, hm, hmm, hx, hi⟩
  · simp [Value.cells] at hc
    obtain ⟨rfl, rfl, rfl⟩ := hc
    exact ⟨none, 0, 0, [], rfl, rfl, Nat.le_refl _, Reads.none_, fun p hp => by cases hp⟩
  · simp [Value.cells] at hcs
    obtain ⟨ea, en, ec⟩ := hcs
    subst ea
    obtain rfl := en.symm
    obtain rfl := ec.symm
    simp only [if_true] at hmm
    subst hmm
    -- each part, cell by cell
    have each : ∀ i, i < len → ∃ q : Int × Nat × Nat, W.cell? (a.add (i * 3)) = some (.int .i8 q.1) ∧ W.cell? (a.add (i * 3 + 1)) = some (.int .u8 (q.2.1 : Int)) ∧ W.cell? (a.add (i * 3 + 2)) = some (.int .u8 (q.2.2 : Int)) ∧ -128 ≤ q.1 ∧ q.1 ≤ 127 ∧ q.2.1 < 256 ∧ q.2.2 < 256 := by
      intro i hil
      obtain ⟨cs', hc, ht⟩ := hi i (by omega)
      rw [cellsPart] at hc
      obtain ⟨ys, n', hn', hy, hlen, hyl, hf⟩ := DataW.trod_struct Tryz.underlying74 ht
      obtain ⟨_, hcl, hat⟩ := World.cells?_some hc
      have hyl3 : ys.length = 3 := hyl
      match cs', hcl, ys, hyl3 with
      | [v0, v1, v2], _, [y0, y1, y2], _ =>
        have f0 : DataW.trod enc Tryz.prog W 0 (fun _ => true) true n' 72 [v0] = some y0 := by
          have this : DataW.trod enc Tryz.prog W 0 (fun _ => true) true n' 72 (([v0, v1, v2].drop 0).take (Tryz.prog.cellsOf 72)) = some y0 := hf 0 _ rfl
          rw [cellsI8] at this
          exact this
        have f1 : DataW.trod enc Tryz.prog W 0 (fun _ => true) true n' 5 [v1] = some y1 := by
          have this : DataW.trod enc Tryz.prog W 0 (fun _ => true) true n' 5 (([v0, v1, v2].drop 1).take (Tryz.prog.cellsOf 5)) = some y1 := hf 1 _ rfl
          rw [cellsU8] at this
          exact this
        have f2 : DataW.trod enc Tryz.prog W 0 (fun _ => true) true n' 5 [v2] = some y2 := by
          have this : DataW.trod enc Tryz.prog W 0 (fun _ => true) true n' 5 (([v0, v1, v2].drop 2).take (Tryz.prog.cellsOf 5)) = some y2 := hf 2 _ rfl
          rw [cellsU8] at this
          exact this
        obtain ⟨z0, e0, _, w0⟩ := DataW.trod_int Tryz.underlying72 f0
        obtain ⟨z1, e1, _, w1⟩ := DataW.trod_int Tryz.underlying5 f1
        obtain ⟨z2, e2, _, w2⟩ := DataW.trod_int Tryz.underlying5 f2
        simp only [List.cons.injEq, and_true] at e0 e1 e2
        have b0 := bounds_i8 w0
        have b1 := bounds_u8 w1
        have b2 := bounds_u8 w2
        have c0 := hat 0 (by decide)
        have c1 := hat 1 (by decide)
        have c2 := hat 2 (by decide)
        rw [Go.Deep.add_add] at c0 c1 c2
        simp only [List.getElem?_cons_zero, List.getElem?_cons_succ, Nat.add_zero] at c0 c1 c2
        refine ⟨(z0, z1.toNat, z2.toNat), by rw [c0, e0], ?_, ?_, b0.1, b0.2, by simp only; omega, by simp only; omega⟩
        · rw [c1, e1]; simp only; rw [Int.toNat_of_nonneg b1.1]
        · rw [c2, e2]; simp only; rw [Int.toNat_of_nonneg b2.1]
    -- together
    have all : ∀ k, k ≤ len → ∃ ps : List (Int × Nat × Nat), ps.length = k ∧ (∀ (j : Nat) (q : Int × Nat × Nat), ps[j]? = some q → W.cell? (a.add (j * 3)) = some (.int .i8 q.1) ∧ W.cell? (a.add (j * 3 + 1)) = some (.int .u8 (q.2.1 : Int)) ∧ W.cell? (a.add (j * 3 + 2)) = some (.int .u8 (q.2.2 : Int))) ∧ ∀ q ∈ ps, -128 ≤ q.1 ∧ q.1 ≤ 127 ∧ q.2.1 < 256 ∧ q.2.2 < 256 := by
      intro k
      induction k with
      | zero => intro _; exact ⟨[], rfl, fun j q h => by simp at h, fun q h => by cases h⟩
      | succ k ih =>
        intro hk
        obtain ⟨ps, h1, h2, h3⟩ := ih (by omega)
        obtain ⟨q, q1, q2, q3, q4⟩ := each k (by omega)
        refine ⟨ps ++ [q], by simp [h1], fun j r hr => ?_, fun r hr => ?_⟩
        · rcases Nat.lt_or_ge j ps.length with hj | hj
          · rw [List.getElem?_append_left hj] at hr
            exact h2 j r hr
          · rw [List.getElem?_append_right hj] at hr
            have : j = k := by
              have := (List.getElem?_eq_some_iff.1 hr).1
              simp at this
              omega
            subst this
            rw [h1, Nat.sub_self] at hr
            simp at hr
            subst hr
            exact ⟨q1, q2, q3⟩
        · rw [List.mem_append, List.mem_singleton] at hr
          rcases hr with hr | hr
          · exact h3 r hr
          · rw [hr]; exact q4
    obtain ⟨ps, h1, h2, h3⟩ := all len (Nat.le_refl _)
    refine ⟨some a, len, _, ps, rfl, h1, hl, ⟨by rw [psv_length, h1], fun h0 => ⟨a, rfl, ?_, fun j u hu => ?_⟩⟩, h3⟩
    · obtain ⟨q, q1, _⟩ := each 0 h0
      have := World.block_lt_of_cell? W _ q1
      simpa [Addr.add] using this
    · have hj : j < ps.length * 3 := by
        have := (List.getElem?_eq_some_iff.1 hu).1
        rwa [psv_length] at this
      obtain ⟨q, hq⟩ : ∃ q, ps[j / 3]? = some q := ⟨ps[j / 3]'(by omega), List.getElem?_eq_getElem _⟩
      obtain ⟨c0, c1, c2⟩ := h2 _ _ hq
      obtain ⟨g0, g1, g2⟩ := psv_get ps _ _ hq
      have hm3 : j % 3 = 0 ∨ j % 3 = 1 ∨ j % 3 = 2 := by omega
      rcases hm3 with h | h | h
      · rw [show j / 3 * 3 = j by omega] at c0 g0
        rw [g0] at hu; rw [c0, ← hu]
      · rw [show j / 3 * 3 + 1 = j by omega] at c1 g1
        rw [g1] at hu; rw [c1, ← hu]
      · rw [show j / 3 * 3 + 2 = j by omega] at c2 g2
        rw [g2] at hu; rw [c2, ← hu]
end
end Go.Proofs.YtgfgpepdkffhbaaGreatDoor.Kl
