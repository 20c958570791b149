/- The walk of integer.divide where the divisor has one piece, and where the dividend is the lesser one. -/
import Derived.Test.YtgfgpepdkffhbaaGreatDoorBack
import Derived.Test.YtgfgpepdkffhbaaGreatDoorOpen
import Derived.Test.YtgfgpepdkffhbaaGreatDoorBuild
import Derived.Outline
import Derived.Test.YtgfgpepdkffhbaaGreatDoorFlow
import Derived.Shelf.RegionOpen
import Derived.Shelf.RegionOpenPlain
namespace Go.Proofs.YtgfgpepdkffhbaaGreatDoor.Kl
open Go.RowKit Go.Shelf
set_option linter.unusedVariables false
set_option linter.unusedSimpArgs false
attribute [local go_sem] Oper.semAt_some

/-- what divide returns. -/
def DivRes (x y : Nat) (e : Ending) (w' : World) : Prop := ∃ A1 n1 c1 A2 n2 c2, e = .returned (.tuple #[.slice A1 n1 c1, .slice A2 n2 c2]) ∧ IsU .u64 w' w'.heap.size A1 n1 c1 (pcs 1000000000 (x / y)) ∧ IsU .u64 w' w'.heap.size A2 n2 c2 (pcs 1000000000 (x % y))

theorem block_kept' {W W' : World} {row : Option Nat} {k : Nat} {cs : Array Value} {t : TypeId} {fz : Nat × Nat} (hk : W.heap[k]? = some (.cells cs t fz)) (hg : W.grownBy W' row) (hr : ∀ r, row = some r → ∃ o : Obj, W.heap[r]? = some o ∧ o.isCells = false) : W'.heap[k]? = some (.cells cs t fz) := by
  refine (hg.block k (lt_of_block' hk) (fun e => ?_)).trans hk
  obtain ⟨o, ho, hc⟩ := hr k e.symm
  rw [hk] at ho
  cases ho
  cases hc

/-- the dividend is the lesser one. -/
theorem div_less (A A' : Option Addr) (n n' c c' : Nat) (x y : Nat) (hxy : x < y) (w : World) (h : IsU .u64 w w.heap.size A n c (pcs 1000000000 x)) (h' : IsU .u64 w w.heap.size A' n' c' (pcs 1000000000 y))
    (hm : n ≤ 4294967296) (hm' : n' ≤ 4294967296) :
    Calls Tryz.prog 106 #[.slice A n c, .slice A' n' c'] w fun e w' => DivRes x y e w' ∧ Below w.heap.size w w' := by
  have hb1 : Below w.heap.size w ((w.alloc (.cells #[.slice A' n' c'] 109)).alloc (.cells #[.slice none 0 0] 109)) := ((Below.refl _ _).alloc (Nat.le_refl _) _).alloc (by simp) _
  have h1 := h.to hb1 (Nat.le_refl _)
  have h1' := h'.to hb1 (Nat.le_refl _)
  have hcmp : cmpN x y = -1 := by simp [cmpN, hxy]
  have HC := Lib.hid hcmp; clear hcmp
  have hbb : ((w.alloc (.cells #[.slice A' n' c'] 109)).alloc (.cells #[.slice none 0 0] 109)).heap[w.heap.size + 1]? = some (.cells #[.slice none 0 0] 109 (0, 0)) := by
    have := heap_alloc_new (w.alloc (.cells #[.slice A' n' c'] 109)) (.cells #[.slice none 0 0] 109)
    rwa [World.size_alloc] at this
  obtain ⟨W0, hW0⟩ : ∃ W0, W0 = (w.alloc (.cells #[.slice A' n' c'] 109)).alloc (.cells #[.slice none 0 0] 109) := ⟨_, rfl⟩
  have hs0 : w.heap.size + 1 < W0.heap.size := by rw [hW0]; simp
  rw [← hW0] at hb1 h1 h1' hbb
  have HW := Lib.hid hW0; clear hW0
  go_enter Tryz.func106, Tryz.ntmps106
  go_wp2_with fail
  rw [← HW.out]
  refine (order_any A A' n n' c c' x y W0 h1 h1' (by omega) (by omega)).mono ?_
  rintro e w1 ⟨rfl, hb2⟩
  rw [HC.out]
  have hbq : w1.heap[w.heap.size + 1]? = some (.cells #[.slice none 0 0] 109 (0, 0)) := (hb2.block _ hs0).trans hbb
  have cq : w1.cell? ⟨w.heap.size + 1, 0, none⟩ = some (.slice none 0 0) := by rw [Lib.cell_of_heap hbq]; rfl
  have fq : w1.frozen? ⟨w.heap.size + 1, 0, none⟩ = false := Lib.frozen_of_heap hbq 0
  go_wp2
  have hBe : Below w.heap.size w (w1.setCell ⟨w.heap.size + 1, 0, none⟩ (.slice none 0 0)) := (hb1.trans (hb2.mono hb1.size)).setCell (p := ⟨w.heap.size + 1, 0, none⟩) (by simp) _
  have d0 : (w1.setCell ⟨w.heap.size + 1, 0, none⟩ (.slice none 0 0)).cell? ⟨w.heap.size + 1, 0, none⟩ = some (.slice none 0 0) := World.cell?_setCell_same _ _ _ cq
  refine bodyPost_ret (v := .tuple #[.slice none 0 0, .slice A n c]) (by simp [results, Tryz.results106, go_sem, d0]) rfl ⟨⟨none, 0, 0, A, n, c, rfl, ?_, ?_⟩, hBe⟩
  · rw [Nat.div_eq_of_lt hxy, pcs_zero]; exact IsU.nil _ _ _ _ _
  · rw [Nat.mod_eq_of_lt hxy]; exact h.to hBe (Nat.le_refl _)

/-- the quotient's pieces so far, and the rest. -/
def divStep (d : Nat) (st : Nat × List Nat) (p : Nat × Nat) : Nat × List Nat := ((st.1 * 1000000000 + p.2) % d, st.2.set p.1 ((st.1 * 1000000000 + p.2) / d))
def divFold {len : Nat} (d : Nat) (l : List (PieceAt len)) : Nat × List Nat := (vals l).foldl (divStep d) (0, List.replicate len 0)
theorem divFold_snoc {len : Nat} (d : Nat) (l : List (PieceAt len)) (x : PieceAt len) : divFold d (l ++ [x]) = divStep d (divFold d l) x.1 := by
  simp [divFold, vals_snoc, List.foldl_append]
theorem divFold_len {len : Nat} (d : Nat) (l : List (PieceAt len)) : (divFold d l).2.length = len := by
  refine snoc_ind (P := fun l : List (PieceAt len) => (divFold d l).2.length = len) ?_ ?_ l
  · simp [divFold, vals]
  · intro l x ih
    rw [divFold_snoc]; simp [divStep, ih]
theorem divFold_rest {len : Nat} {d : Nat} (hd : 0 < d) (l : List (PieceAt len)) : (divFold d l).1 < d := by
  refine snoc_ind (P := fun l : List (PieceAt len) => (divFold d l).1 < d) ?_ ?_ l
  · simpa [divFold, vals] using hd
  · intro l x ih
    rw [divFold_snoc]; exact Nat.mod_lt _ hd

theorem div_bwd {xs : List Nat} (hx : Dig 1000000000 xs) {d : Nat} (hd : 0 < d) (hdb : d < 1000000000) : ∀ k, k ≤ xs.length →
    ((bwd xs k).foldl (divStep d) (0, List.replicate xs.length 0)).1 = val 1000000000 (xs.drop (xs.length - k)) % d ∧
    ((bwd xs k).foldl (divStep d) (0, List.replicate xs.length 0)).2.length = xs.length ∧ Dig 1000000000 ((bwd xs k).foldl (divStep d) (0, List.replicate xs.length 0)).2 ∧
    val 1000000000 (((bwd xs k).foldl (divStep d) (0, List.replicate xs.length 0)).2.drop (xs.length - k)) = val 1000000000 (xs.drop (xs.length - k)) / d
  | 0, _ => by
    refine ⟨by simp [bwd, val], by simp [bwd], ?_, by simp [bwd, val]⟩
    intro x hx
    simp only [bwd, List.range_zero, List.map_nil, List.foldl_nil] at hx
    rw [List.eq_of_mem_replicate hx]; decide
  | k + 1, hk => by
    obtain ⟨h1, h2, h3, h4⟩ := div_bwd hx hd hdb k (by omega)
    rw [bwd_succ, List.foldl_append]
    simp only [List.foldl_cons, List.foldl_nil]
    generalize (bwd xs k).foldl (divStep d) (0, List.replicate xs.length 0) = st at *
    have hi : xs.length - 1 - k < xs.length := by omega
    have hlt := hx.get hi
    have e1 : xs.drop (xs.length - (k + 1)) = xs[xs.length - 1 - k] :: xs.drop (xs.length - k) := by
      rw [show xs.length - (k + 1) = xs.length - 1 - k by omega, List.drop_eq_getElem_cons hi, show xs.length - 1 - k + 1 = xs.length - k by omega]
    rw [List.getElem?_eq_getElem hi, Option.getD_some, e1]
    simp only [divStep, val]
    generalize xs[xs.length - 1 - k] = a at *
    generalize val 1000000000 (xs.drop (xs.length - k)) = V at *
    have hV := Nat.div_add_mod V d
    have hr : st.1 < d := by rw [h1]; exact Nat.mod_lt _ hd
    have hVV : a + 1000000000 * V = st.1 * 1000000000 + a + d * (1000000000 * (V / d)) := by
      rw [h1, Nat.mul_left_comm d]
      have : 1000000000 * V = 1000000000 * (d * (V / d)) + 1000000000 * (V % d) := by rw [← Nat.mul_add, hV]
      omega
    have hq9 : (st.1 * 1000000000 + a) / d < 1000000000 := by
      apply Nat.div_lt_of_lt_mul
      have : (st.1 + 1) * 1000000000 ≤ d * 1000000000 := Nat.mul_le_mul_right _ hr
      omega
    refine ⟨?_, by simp [h2], ?_, ?_⟩
    · rw [hVV, Nat.add_mul_mod_self_left]
    · intro y hy
      rcases List.mem_or_eq_of_mem_set hy with h5 | h5
      · exact h3 y h5
      · rw [h5]; exact hq9
    · have hjl : xs.length - 1 - k < (st.2.set (xs.length - 1 - k) ((st.1 * 1000000000 + a) / d)).length := by simp [h2]; omega
      rw [show xs.length - (k + 1) = xs.length - 1 - k by omega, List.drop_eq_getElem_cons hjl, show xs.length - 1 - k + 1 = xs.length - k by omega]
      simp only [List.getElem_set_self, val]
      rw [List.drop_set_of_lt (by omega), h4, hVV, Nat.add_mul_div_left _ _ hd]

theorem wrap_u64 {z : Int} (h0 : 0 ≤ z) (h1 : z < 18446744073709551616) : IntKind.u64.wrap z = z := by
  simp [IntKind.wrap, IntKind.bits, IntKind.signed]
  omega

theorem us_toArray_get {k : IntKind} {os : List Nat} {i o : Nat} (h : os[i]? = some o) : (us k os).toArray[i]? = some (.int k (o : Int)) := by
  simp [us, h]

set_option maxRecDepth 100000 in
set_option maxHeartbeats 4000000 in
theorem div_one (A A' : Option Addr) (n c c' : Nat) (x d : Nat) (hd : 0 < d) (hdb : d < 1000000000) (hxy : d ≤ x) (w : World) (h : IsU .u64 w w.heap.size A n c (pcs 1000000000 x)) (h' : IsU .u64 w w.heap.size A' 1 c' [d])
    (hm : n ≤ 4294967296) :
    Calls Tryz.prog 106 #[.slice A n c, .slice A' 1 c'] w fun e w' => DivRes x d e w' ∧ Below w.heap.size w w' := by
  have hpd : pcs 1000000000 d = [d] := by rw [pcs_one hdb, show [d] = ([] : List Nat) ++ [d] from rfl, trimL_snoc_pos _ (by omega)]
  have hb1 : Below w.heap.size w ((w.alloc (.cells #[.slice A' 1 c'] 109)).alloc (.cells #[.slice none 0 0] 109)) := ((Below.refl _ _).alloc (Nat.le_refl _) _).alloc (by simp) _
  have h1 := h.to hb1 (Nat.le_refl _)
  have h1' := h'.to hb1 (Nat.le_refl _)
  rw [← hpd] at h1'
  have hcmp : 0 ≤ cmpN x d := by unfold cmpN; split; omega; split <;> omega
  have HC := Lib.hid hcmp; clear hcmp
  have hba : ((w.alloc (.cells #[.slice A' 1 c'] 109)).alloc (.cells #[.slice none 0 0] 109)).heap[w.heap.size]? = some (.cells #[.slice A' 1 c'] 109 (0, 0)) :=
    (Below.heap_alloc _ _ _ (by simp)).trans (heap_alloc_new w _)
  have hbb : ((w.alloc (.cells #[.slice A' 1 c'] 109)).alloc (.cells #[.slice none 0 0] 109)).heap[w.heap.size + 1]? = some (.cells #[.slice none 0 0] 109 (0, 0)) := by
    have := heap_alloc_new (w.alloc (.cells #[.slice A' 1 c'] 109)) (.cells #[.slice none 0 0] 109)
    rwa [World.size_alloc] at this
  obtain ⟨W0, hW0⟩ : ∃ W0, W0 = (w.alloc (.cells #[.slice A' 1 c'] 109)).alloc (.cells #[.slice none 0 0] 109) := ⟨_, rfl⟩
  have hs0 : w.heap.size + 1 < W0.heap.size := by rw [hW0]; simp
  rw [← hW0] at hb1 h1 h1' hba hbb
  have HW := Lib.hid hW0; clear hW0
  obtain ⟨xs, hxs⟩ : ∃ xs, xs = pcs 1000000000 x := ⟨_, rfl⟩
  have hlen := h.len
  have HX := Lib.hid hxs; clear hxs
  have HL := Lib.hid hlen; clear hlen
  have HPD := Lib.hid hpd; clear hpd
  obtain ⟨i0, hi0, hz0, hz1, hz2⟩ := info_parts info_u64
  refine (callsIn_wide (n := 9)).1 ?_
  refine callsIn_of_wp_marks Tryz.func106 rfl trivial ?_ rfl
  simp only [Tryz.ntmps106, List.size_toArray, List.length_cons, List.length_nil, Nat.reduceAdd, Nat.reduceSub, Array.replicate_succ, Array.replicate_zero, List.push_toArray, List.append_toArray, List.nil_append, List.cons_append]
  gi_wp2_with fail
  rw [← HW.out]
  refine ⟨trivial, ?_⟩
  refine (callsIn_wide.2 (order_any A A' n 1 c c' x d W0 h1 h1' (by omega) (by omega))).mono ?_
  rintro e w1 ⟨rfl, hb2⟩
  obtain ⟨cm, hcm⟩ : ∃ cm, cmpN x d = cm := ⟨_, rfl⟩
  have hcm0 : 0 ≤ cm := by rw [← hcm]; exact HC.out
  rw [hcm]
  have HCM := Lib.hid hcm; clear hcm
  have hB1 : Below w.heap.size w w1 := hb1.trans (hb2.mono hb1.size)
  have hbp : w1.heap[w.heap.size]? = some (.cells #[.slice A' 1 c'] 109 (0, 0)) := (hb2.block _ (by omega)).trans hba
  have hbq : w1.heap[w.heap.size + 1]? = some (.cells #[.slice none 0 0] 109 (0, 0)) := (hb2.block _ hs0).trans hbb
  have cp : w1.cell? ⟨w.heap.size, 0, none⟩ = some (.slice A' 1 c') := by rw [Lib.cell_of_heap hbp]; rfl
  have cq : w1.cell? ⟨w.heap.size + 1, 0, none⟩ = some (.slice none 0 0) := by rw [Lib.cell_of_heap hbq]; rfl
  have fq : w1.frozen? ⟨w.heap.size + 1, 0, none⟩ = false := Lib.frozen_of_heap hbq 0
  have hmk : ∀ W : World, (Instr.makeSlice 109 (.int .i64 (n : Int)) (.int .i64 (n : Int))).run Tryz.prog W = .ok (.slice (some ⟨W.heap.size, 0, none⟩) n n) (W.alloc (.cells (us .u64 (List.replicate n 0)).toArray 145)) := fun W => by
    have hr := run_make (P := Tryz.prog) W 109 145 i0 (.int .u64 0) Tryz.underlying109 hi0 hz0 .i64 .i64 n n (by omega) (by omega) (by rw [hz2]; omega) (by omega)
    simp only [Int.toNat_natCast] at hr
    rw [hr]
    congr 3
    apply Array.toList_inj.1
    rw [hz1, Nat.mul_one]
    exact (toList_madeCells_one _ _).trans (by simp [us])
  have hl1 : w.heap.size + 1 < w1.heap.size := lt_of_block' hbq
  obtain ⟨Q0, hQ0⟩ : ∃ Q0, (us .u64 (List.replicate n 0)).toArray = Q0 := ⟨_, rfl⟩
  rw [hQ0] at hmk
  have HQ0 := Lib.hid hQ0; clear hQ0
  have cq2 : (w1.alloc (.cells Q0 145)).cell? ⟨w.heap.size + 1, 0, none⟩ = some (.slice none 0 0) := by rw [World.cell?_alloc_lt _ _ _ hl1]; exact cq
  have fq2 : (w1.alloc (.cells Q0 145)).frozen? ⟨w.heap.size + 1, 0, none⟩ = false := Lib.frozen_of_heap ((Below.heap_alloc w1 _ _ hl1).trans hbq) 0
  gi_wp2_with fail
  have hsC : ∀ (W : World) (q : Addr) (u : Value) (k : Nat), k ≠ q.block → (W.setCell q u).heap[k]? = W.heap[k]? := fun W q u k hk => Below.heap_setCell W q u k hk
  have hq1 : (w1.setCell ⟨w.heap.size + 1, 0, none⟩ (.slice (some ⟨w1.heap.size, 0, none⟩) n n)).heap[w.heap.size + 1]? = some (.cells #[.slice (some ⟨w1.heap.size, 0, none⟩) n n] 109 (0, 0)) := by
    simp [World.setCell, Array.getElem?_modify, hbq]
  have hp1 : (w1.setCell ⟨w.heap.size + 1, 0, none⟩ (.slice (some ⟨w1.heap.size, 0, none⟩) n n)).heap[w.heap.size]? = some (.cells #[.slice A' 1 c'] 109 (0, 0)) := (hsC _ _ _ _ (by simp)).trans hbp
  have hz1 : (w1.setCell ⟨w.heap.size + 1, 0, none⟩ (.slice (some ⟨w1.heap.size, 0, none⟩) n n)).heap.size = w1.heap.size := by simp [World.setCell]
  have hBz : Below w.heap.size w (w1.setCell ⟨w.heap.size + 1, 0, none⟩ (.slice (some ⟨w1.heap.size, 0, none⟩) n n)) := hB1.setCell (p := ⟨w.heap.size + 1, 0, none⟩) (by simp) _
  obtain ⟨V, hV⟩ : ∃ V, w1.setCell ⟨w.heap.size + 1, 0, none⟩ (.slice (some ⟨w1.heap.size, 0, none⟩) n n) = V := ⟨_, rfl⟩
  rw [hV] at hq1 hp1 hz1 hBz ⊢
  obtain ⟨g, hg⟩ : ∃ g, w1.heap.size = g := ⟨_, rfl⟩
  rw [hg] at hq1 hz1 hl1 ⊢
  have hpl := lt_of_block' hp1
  have hql := lt_of_block' hq1
  have hg1 : ((V.alloc (.cells Q0 145)).alloc (.cells #[.int .u64 0] 145)).heap[g]? = some (.cells Q0 145 (0, 0)) := by
    rw [← hz1]; exact (Below.heap_alloc _ _ _ (by simp)).trans (heap_alloc_new V _)
  have hr1 : ((V.alloc (.cells Q0 145)).alloc (.cells #[.int .u64 0] 145)).heap[g + 1]? = some (.cells #[.int .u64 0] 145 (0, 0)) := by
    have := heap_alloc_new (V.alloc (.cells Q0 145)) (.cells #[.int .u64 0] 145)
    rwa [World.size_alloc, hz1] at this
  have hp2 : ((V.alloc (.cells Q0 145)).alloc (.cells #[.int .u64 0] 145)).heap[w.heap.size]? = some (.cells #[.slice A' 1 c'] 109 (0, 0)) := (Below.heap_alloc _ _ _ (by simp; omega)).trans ((Below.heap_alloc _ _ _ hpl).trans hp1)
  have hq2 : ((V.alloc (.cells Q0 145)).alloc (.cells #[.int .u64 0] 145)).heap[w.heap.size + 1]? = some (.cells #[.slice (some ⟨g, 0, none⟩) n n] 109 (0, 0)) := (Below.heap_alloc _ _ _ (by simp; omega)).trans ((Below.heap_alloc _ _ _ hql).trans hq1)
  have hB2 : Below w.heap.size w ((V.alloc (.cells Q0 145)).alloc (.cells #[.int .u64 0] 145)) := (hBz.alloc hBz.size _).alloc (by have := hBz.size; simp; omega) _
  have hz2 : ((V.alloc (.cells Q0 145)).alloc (.cells #[.int .u64 0] 145)).heap.size = g + 2 := by simp; omega
  obtain ⟨W2, hW2⟩ : ∃ W2, (V.alloc (.cells Q0 145)).alloc (.cells #[.int .u64 0] 145) = W2 := ⟨_, rfl⟩
  rw [hW2] at hg1 hr1 hp2 hq2 hB2 hz2 ⊢
  clear hW2 hV hmk cq2 fq2 cq fq cp hq1 hp1 hBz
  refine ⟨trivial, ?_⟩
  refine (back_in Fence.wide _ trivial rfl _ _ _ _).mono ?_
  rintro e w' ⟨rfl, rfl⟩
  have hbox : (W2.alloc (.cells #[.slice A n c] 109)).heap[W2.heap.size]? = some (.cells #[.slice A n c] 109 (0, 0)) := heap_alloc_new W2 _
  rw [hz2] at hbox
  have hp3 := (Below.heap_alloc W2 (.cells #[.slice A n c] 109) _ (lt_of_block' hp2)).trans hp2
  have hq3 := (Below.heap_alloc W2 (.cells #[.slice A n c] 109) _ (lt_of_block' hq2)).trans hq2
  have hg3 := (Below.heap_alloc W2 (.cells #[.slice A n c] 109) _ (lt_of_block' hg1)).trans hg1
  have hr3 := (Below.heap_alloc W2 (.cells #[.slice A n c] 109) _ (lt_of_block' hr1)).trans hr1
  have hB3 : Below w.heap.size w (W2.alloc (.cells #[.slice A n c] 109)) := hB2.alloc hB2.size _
  obtain ⟨Bs, hBs⟩ : ∃ Bs, g + 2 = Bs := ⟨_, rfl⟩
  rw [hz2, hBs]
  rw [hBs] at hbox
  obtain ⟨W3, hW3⟩ : ∃ W3, W2.alloc (.cells #[.slice A n c] 109) = W3 := ⟨_, rfl⟩
  rw [hW3] at hbox hp3 hq3 hg3 hr3 hB3 ⊢
  have HBs := Lib.hid hBs
  have hBsg : g + 1 < Bs := by omega
  clear hW3 hg1 hr1 hp2 hq2 hB2 hz2 hBs
  have hdig : Dig 1000000000 xs := by rw [HX.out]; exact dig_pcs (by decide) x
  rw [← HX.out] at h
  gi_wp2
  refine wpIn_rangeFunc_ownF rfl (by decide) (gf := 129) (lb := #[.pointer (some ⟨Bs, 0, none⟩)]) rfl trivial (enters_of Tryz.func129 (by kernel_rfl) rfl)
    (back_stops Fence.wide _ trivial rfl (by decide) Bs w.heap.size n c A xs (by omega) hdig W3 hbox hB3.size (h.below hB3))
    (fun h1 h2 => ⟨h1.1.trans h2.1, h2.2.trans h1.2⟩) (fun W l o o' hl ho hc hw => ⟨belowK_b (w := W3) hB3.size W l o o' hl ho hc hw, World.putObj_heap_other (by have := lt_of_block' hbox; omega)⟩) (Below.refl _ _) (fun _ => rfl)
    (fun pre W => (W.heap[w.heap.size]? = some (.cells #[.slice A' 1 c'] 109 (0, 0)) ∧ W.heap[w.heap.size + 1]? = some (.cells #[.slice (some ⟨g, 0, none⟩) n n] 109 (0, 0)) ∧ W.heap[g]? = some (.cells (us .u64 (divFold d pre).2).toArray 145 (0, 0)) ∧ W.heap[g + 1]? = some (.cells #[.int .u64 ((divFold d pre).1 : Nat)] 145 (0, 0)) ∧ W.heap[Bs]? = some (.cells #[.slice A n c] 109 (0, 0))) ∧ Below w.heap.size w W)
    (fun _ _ _ => False)
    (OwnFrom.and (Own.from (fun s A' B' row hs hg hr => ⟨block_kept' hs.1 hg hr, block_kept' hs.2.1 hg hr, block_kept' hs.2.2.1 hg hr, block_kept' hs.2.2.2.1 hg hr, block_kept' hs.2.2.2.2 hg hr⟩) _) (ownFrom_below (Nat.le_refl _) hB3.size))
    (fun _ _ _ _ _ hs _ _ => hs)
    ⟨⟨hp3, hq3, by rw [← HQ0.out] at hg3; exact hg3, hr3, hbox⟩, hB3⟩
    (fun y => { tmps := #[.slice A n c, .slice A' 1 c', undef, .pointer (some ⟨w.heap.size, 0, none⟩), .pointer (some ⟨w.heap.size + 1, 0, none⟩), .slice none 0 0, .pointer (some ⟨g + 1, 0, none⟩), .int .i64 (y.1.1 : Int), .int .u64 (y.1.2 : Int), undef, undef, undef, undef, undef, .slice A n c, .slice A' 1 c', .int .i64 cm, .bool (decide (cm < 0)), undef, .slice A' 1 c', .int .i64 1, .bool true, .slice A n c, .int .i64 (n : Int), .slice (some ⟨g, 0, none⟩) n n, .slice A n c, .func (.func 129) #[] #[.pointer (some ⟨Bs, 0, none⟩)], .int .i64 (y.1.1 : Int), .int .u64 (y.1.2 : Int), undef, undef, undef, undef, undef, undef, undef, undef, undef, undef, undef, undef, undef, undef, undef, undef, undef, undef, undef, undef, undef, undef, undef, undef, undef, undef, undef, undef, undef, undef, undef, undef, undef, undef, undef, undef, undef, undef, undef, undef, undef, undef, undef, undef, undef, undef, undef, undef, undef, undef, undef, undef, undef, undef, undef, undef, undef, undef, undef, undef, undef, undef, undef, undef, undef, undef, undef, undef, undef, undef, undef, undef, undef, undef, undef, undef, undef, undef, undef, undef, undef, undef, undef, undef, undef, undef, undef, undef, undef, undef, undef, undef, undef, undef, undef, undef, undef, undef, undef, undef, undef, undef, undef, undef, undef, undef, undef, undef, undef, undef, undef, undef, undef, undef, undef, undef, undef], defers := [] }) ?assign ?body ?done ?stop
  case assign =>
    intro l y W K hK
    simp only [encB]
    gi_wp2
    exact hK
  case body =>
    rintro l pre y W ⟨⟨hpW, hqW, hgW, hrW, hxW⟩, hBW⟩ hpre
    have hfl := divFold_len d pre
    have hfr := divFold_rest hd pre
    have hfs := divFold_snoc d pre y
    obtain ⟨⟨pi, pv⟩, hpi, hpv⟩ := y
    simp only [divStep] at hfs hpi hpv
    obtain ⟨⟨r, q⟩, hst⟩ : ∃ st, divFold d pre = st := ⟨_, rfl⟩
    rw [hst] at hgW hrW hfl hfr hfs
    simp only at hgW hrW hfl hfr hfs
    clear hst
    have HFS := Lib.hid hfs; clear hfs
    obtain ⟨o, ho⟩ : ∃ o, q[pi]? = some o := ⟨_, List.getElem?_eq_getElem (by omega)⟩
    obtain ⟨ad, dd, hA', hadb, hdd, hcd⟩ := (h'.below hBW).at_ (j := 0) (by decide)
    simp only [List.getElem?_cons_zero, Option.some.injEq] at hdd
    subst hdd hA'
    have cp : W.cell? ⟨w.heap.size, 0, none⟩ = some (.slice (some ad) 1 c') := by rw [Lib.cell_of_heap hpW]; rfl
    have cq : W.cell? ⟨w.heap.size + 1, 0, none⟩ = some (.slice (some ⟨g, 0, none⟩) n n) := by rw [Lib.cell_of_heap hqW]; rfl
    have cr : W.cell? ⟨g + 1, 0, none⟩ = some (.int .u64 (r : Int)) := by rw [Lib.cell_of_heap hrW]; rfl
    have fr : W.frozen? ⟨g + 1, 0, none⟩ = false := Lib.frozen_of_heap hrW 0
    have cg : W.cell? ⟨g, pi, none⟩ = some (.int .u64 (o : Int)) := by rw [Lib.cell_of_heap hgW]; exact us_toArray_get ho
    have fg : W.frozen? ⟨g, pi, none⟩ = false := Lib.frozen_of_heap hgW pi
    have hcd0 : W.cell? ad = some (.int .u64 (d : Int)) := by simpa [Addr.add] using hcd
    have mixed : Tryz.prog.follows .mixedOrders = true := by kernel_rfl
    have hpl4 := lt_of_block' hpW
    have hql4 := lt_of_block' hqW
    have hgl4 := lt_of_block' hgW
    have hrl4 := lt_of_block' hrW
    have hne1 : ad.block ≠ g + 1 := by omega
    have hne2 : ad.block ≠ g := by omega
    gi_wp2
    obtain ⟨t, ht⟩ : ∃ t : Nat, r * 1000000000 + pv = t := ⟨_, rfl⟩
    have ht' : (r : Int) * 1000000000 + (pv : Int) = (t : Int) := by omega
    rw [ht']
    have hp5 : (W.setCell ⟨g + 1, 0, none⟩ (.int .u64 (t : Int))).heap[w.heap.size]? = some (.cells #[.slice (some ad) 1 c'] 109 (0, 0)) := (hsC _ _ _ _ (by simp; omega)).trans hpW
    have hq5 : (W.setCell ⟨g + 1, 0, none⟩ (.int .u64 (t : Int))).heap[w.heap.size + 1]? = some (.cells #[.slice (some ⟨g, 0, none⟩) n n] 109 (0, 0)) := (hsC _ _ _ _ (by simp; omega)).trans hqW
    have hg5 : (W.setCell ⟨g + 1, 0, none⟩ (.int .u64 (t : Int))).heap[g]? = some (.cells (us .u64 q).toArray 145 (0, 0)) := (hsC _ _ _ _ (by simp)).trans hgW
    have hx5 : (W.setCell ⟨g + 1, 0, none⟩ (.int .u64 (t : Int))).heap[Bs]? = some (.cells #[.slice A n c] 109 (0, 0)) := (hsC _ _ _ _ (by simp; omega)).trans hxW
    have hr5 : (W.setCell ⟨g + 1, 0, none⟩ (.int .u64 (t : Int))).heap[g + 1]? = some (.cells #[.int .u64 (t : Int)] 145 (0, 0)) := by
      simp [World.setCell, Array.getElem?_modify, hrW]
    have hB5 : Below w.heap.size w (W.setCell ⟨g + 1, 0, none⟩ (.int .u64 (t : Int))) := hBW.setCell (p := ⟨g + 1, 0, none⟩) (by simp; omega) _
    have hd5 : (W.setCell ⟨g + 1, 0, none⟩ (.int .u64 (t : Int))).cell? ad = some (.int .u64 (d : Int)) := (World.cell?_setCell_other (h := fun e => hne1 (by rw [← e])) ..).trans hcd0
    obtain ⟨W5, hW5⟩ : ∃ W5, W.setCell ⟨g + 1, 0, none⟩ (.int .u64 (t : Int)) = W5 := ⟨_, rfl⟩
    have hK5 : KeepsOthers W W5 := by rw [← hW5]; exact KeepsOthers.setCell _ _ _
    have hBW5 : Below w.heap.size W W5 := by rw [← hW5]; exact (Below.refl _ _).setCell (p := ⟨g + 1, 0, none⟩) (by simp; omega) _
    rw [hW5] at hp5 hq5 hg5 hx5 hr5 hB5 hd5 ⊢
    clear hW5 hpW hqW hgW hrW hBW cp cq cr fr cg fg hcd hcd0 hpl4 hql4 hgl4 hrl4
    have cp : W5.cell? ⟨w.heap.size, 0, none⟩ = some (.slice (some ad) 1 c') := by rw [Lib.cell_of_heap hp5]; rfl
    have cq : W5.cell? ⟨w.heap.size + 1, 0, none⟩ = some (.slice (some ⟨g, 0, none⟩) n n) := by rw [Lib.cell_of_heap hq5]; rfl
    have cr : W5.cell? ⟨g + 1, 0, none⟩ = some (.int .u64 (t : Int)) := by rw [Lib.cell_of_heap hr5]; rfl
    have fr : W5.frozen? ⟨g + 1, 0, none⟩ = false := Lib.frozen_of_heap hr5 0
    have cg : W5.cell? ⟨g, pi, none⟩ = some (.int .u64 (o : Int)) := by rw [Lib.cell_of_heap hg5]; exact us_toArray_get ho
    have fg : W5.frozen? ⟨g, pi, none⟩ = false := Lib.frozen_of_heap hg5 pi
    have htb : t < 1000000000000000000 := by
      have : r + 1 ≤ d := hfr
      have : (r + 1) * 1000000000 ≤ d * 1000000000 := Nat.mul_le_mul_right _ hfr
      omega
    obtain ⟨W6, hW6⟩ : ∃ W6, ({ W5 with drawn := W5.drawn + 1 } : World).setCell ⟨g, pi, none⟩ (.int .u64 ((t / d : Nat) : Int)) = W6 := ⟨_, rfl⟩
    obtain ⟨W7, hW7⟩ : ∃ W7, W6.setCell ⟨g + 1, 0, none⟩ (.int .u64 ((t % d : Nat) : Int)) = W7 := ⟨_, rfl⟩
    have hp6 : W6.heap[w.heap.size]? = some (.cells #[.slice (some ad) 1 c'] 109 (0, 0)) := by rw [← hW6]; exact (hsC _ _ _ _ (by simp; omega)).trans hp5
    have hq6 : W6.heap[w.heap.size + 1]? = some (.cells #[.slice (some ⟨g, 0, none⟩) n n] 109 (0, 0)) := by rw [← hW6]; exact (hsC _ _ _ _ (by simp; omega)).trans hq5
    have hx6 : W6.heap[Bs]? = some (.cells #[.slice A n c] 109 (0, 0)) := by rw [← hW6]; exact (hsC _ _ _ _ (by simp; omega)).trans hx5
    have hr6 : W6.heap[g + 1]? = some (.cells #[.int .u64 (t : Int)] 145 (0, 0)) := by rw [← hW6]; exact (hsC _ _ _ _ (by simp)).trans hr5
    have hg6 : W6.heap[g]? = some (.cells (us .u64 (q.set pi (t / d))).toArray 145 (0, 0)) := by
      rw [← hW6]
      simp [World.setCell, Array.getElem?_modify, hg5, us, List.map_set]
    have hd6 : W6.cell? ad = some (.int .u64 (d : Int)) := by rw [← hW6]; exact (World.cell?_setCell_other (h := fun e => hne2 (by rw [← e])) ..).trans hd5
    have hp7 : W7.heap[w.heap.size]? = some (.cells #[.slice (some ad) 1 c'] 109 (0, 0)) := by rw [← hW7]; exact (hsC _ _ _ _ (by simp; omega)).trans hp6
    have hq7 : W7.heap[w.heap.size + 1]? = some (.cells #[.slice (some ⟨g, 0, none⟩) n n] 109 (0, 0)) := by rw [← hW7]; exact (hsC _ _ _ _ (by simp; omega)).trans hq6
    have hx7 : W7.heap[Bs]? = some (.cells #[.slice A n c] 109 (0, 0)) := by rw [← hW7]; exact (hsC _ _ _ _ (by simp; omega)).trans hx6
    have hg7 : W7.heap[g]? = some (.cells (us .u64 (q.set pi (t / d))).toArray 145 (0, 0)) := by rw [← hW7]; exact (hsC _ _ _ _ (by simp)).trans hg6
    have hr7 : W7.heap[g + 1]? = some (.cells #[.int .u64 ((t % d : Nat) : Int)] 145 (0, 0)) := by
      rw [← hW7]
      simp [World.setCell, Array.getElem?_modify, hr6]
    have hK7 : KeepsOthers W W7 := by
      rw [← hW7, ← hW6]
      exact ((hK5.trans (KeepsOthers.drew W5)).trans (KeepsOthers.setCell _ _ _)).trans (KeepsOthers.setCell _ _ _)
    have hBW7 : Below w.heap.size W W7 := by
      rw [← hW7, ← hW6]
      exact ((hBW5.drew).setCell (p := ⟨g, pi, none⟩) (by simp; omega) _).setCell (p := ⟨g + 1, 0, none⟩) (by simp; omega) _
    have hB7 : Below w.heap.size w W7 := by
      rw [← hW7, ← hW6]
      exact ((hB5.drew).setCell (p := ⟨g, pi, none⟩) (by simp; omega) _).setCell (p := ⟨g + 1, 0, none⟩) (by simp; omega) _
    refine wpIn_region_flow (fun i => ([.slice (some ⟨g, 0, none⟩) n n, .int .i64 (pi : Int), .int .u64 (t : Int), .slice (some ad) 1 c', .pointer (some ad), .int .u64 (d : Int), .int .u64 ((t / d : Nat) : Int), .int .u64 (t : Int), .slice (some ad) 1 c', .pointer (some ad), .int .u64 (d : Int), .int .u64 ((t % d : Nat) : Int), .pointer (some ⟨g, pi, none⟩), undef, undef] : List Value).getD i undef) mixed (by kernel_rfl) (by kernel_rfl)
      (fun L => if L.getD 14 false = true then W7 else if L.getD 13 false = true then W6 else { W5 with drawn := W5.drawn + 1 }) (by simp) ?step ?fin
    case step =>
      intro i o ho L a hF hr
      have hlt : i < 15 := (Array.getElem?_eq_some_iff.1 ho).1
      have hun : L.getD i false = false := getD_both (ready_unlisted hr)
      have hLs : L.size = 15 := hF.size
      have h14 : i < 14 → L.getD 14 false = false := by
        intro hi
        cases h14 : L.getD 14 false with
        | false => rfl
        | true =>
          exfalso
          have k := fun j oj hj hl e he hb => hF.closed j oj hj hl e he hb
          have a13 : L.getD 13 false = true := hF.up (j := 14) (k := 13) rfl (by kernel_rfl) h14
          have a11 : L.getD 11 false = true := hF.up (j := 14) (k := 11) rfl (by kernel_rfl) h14
          have a12 : L.getD 12 false = true := hF.up (j := 13) (k := 12) rfl (by kernel_rfl) a13
          have a10 : L.getD 10 false = true := hF.up (j := 11) (k := 10) rfl (by kernel_rfl) a11
          have a9 : L.getD 9 false = true := hF.up (j := 10) (k := 9) rfl (by kernel_rfl) a10
          have a8 : L.getD 8 false = true := hF.up (j := 9) (k := 8) rfl (by kernel_rfl) a9
          have a7 : L.getD 7 false = true := hF.up (j := 11) (k := 7) rfl (by kernel_rfl) a11
          have a6 : L.getD 6 false = true := hF.up (j := 13) (k := 6) rfl (by kernel_rfl) a13
          have a5 : L.getD 5 false = true := hF.up (j := 6) (k := 5) rfl (by kernel_rfl) a6
          have a4 : L.getD 4 false = true := hF.up (j := 5) (k := 4) rfl (by kernel_rfl) a5
          have a3 : L.getD 3 false = true := hF.up (j := 4) (k := 3) rfl (by kernel_rfl) a4
          have a2 : L.getD 2 false = true := hF.up (j := 6) (k := 2) rfl (by kernel_rfl) a6
          have a1 : L.getD 1 false = true := hF.up (j := 12) (k := 1) rfl (by kernel_rfl) a12
          have a0 : L.getD 0 false = true := hF.up (j := 12) (k := 0) rfl (by kernel_rfl) a12
          have : i = 0 ∨ i = 1 ∨ i = 2 ∨ i = 3 ∨ i = 4 ∨ i = 5 ∨ i = 6 ∨ i = 7 ∨ i = 8 ∨ i = 9 ∨ i = 10 ∨ i = 11 ∨ i = 12 ∨ i = 13 := by omega
          rcases this with rfl | rfl | rfl | rfl | rfl | rfl | rfl | rfl | rfl | rfl | rfl | rfl | rfl | rfl <;> simp_all
      have two : i < 13 → ∃ W, (W = { W5 with drawn := W5.drawn + 1 } ∨ W = W6) ∧ (if L.getD 14 false = true then W7 else if L.getD 13 false = true then W6 else { W5 with drawn := W5.drawn + 1 }) = W ∧
          (if (L.setIfInBounds i true).getD 14 false = true then W7 else if (L.setIfInBounds i true).getD 13 false = true then W6 else { W5 with drawn := W5.drawn + 1 }) = W := by
        intro hi
        rw [getD_set_ne false (by omega : i ≠ 14), getD_set_ne false (by omega : i ≠ 13), h14 (by omega)]
        cases L.getD 13 false with
        | true => exact ⟨_, .inr rfl, by simp, by simp⟩
        | false => exact ⟨_, .inl rfl, by simp, by simp⟩
      have cells : ∀ W, (W = { W5 with drawn := W5.drawn + 1 } ∨ W = W6) → W.cell? ⟨w.heap.size, 0, none⟩ = some (.slice (some ad) 1 c') ∧ W.cell? ⟨w.heap.size + 1, 0, none⟩ = some (.slice (some ⟨g, 0, none⟩) n n) ∧ W.cell? ⟨g + 1, 0, none⟩ = some (.int .u64 (t : Int)) ∧ W.cell? ad = some (.int .u64 (d : Int)) := by
        rintro W (rfl | rfl)
        · exact ⟨cp, cq, cr, hd5⟩
        · exact ⟨by rw [Lib.cell_of_heap hp6]; rfl, by rw [Lib.cell_of_heap hq6]; rfl, by rw [Lib.cell_of_heap hr6]; rfl, hd6⟩
      have fr6 : W6.frozen? ⟨g + 1, 0, none⟩ = false := Lib.frozen_of_heap hr6 0
      have cr6 := (cells W6 (.inr rfl)).2.2.1
      have hi : i = 0 ∨ i = 1 ∨ i = 2 ∨ i = 3 ∨ i = 4 ∨ i = 5 ∨ i = 6 ∨ i = 7 ∨ i = 8 ∨ i = 9 ∨ i = 10 ∨ i = 11 ∨ i = 12 ∨ i = 13 ∨ i = 14 := by omega
      rcases hi with rfl | rfl | rfl | rfl | rfl | rfl | rfl | rfl | rfl | rfl | rfl | rfl | rfl | rfl | rfl
      · obtain ⟨W, hW, e1, e2⟩ := two (by decide)
        obtain ⟨c1, c2, c3, c4⟩ := cells W hW
        cases Option.some.inj ho
        have v0 := hF.from_ (d := 4) (by kernel_rfl)
        refine .inl ?_
        simp only [e1, e2]
        simp [go_sem, v0, c1, c2, c3, c4]
      · obtain ⟨W, hW, e1, e2⟩ := two (by decide)
        obtain ⟨c1, c2, c3, c4⟩ := cells W hW
        cases Option.some.inj ho
        have v0 := hF.from_ (d := 7) (by kernel_rfl)
        refine .inl ?_
        simp only [e1, e2]
        simp [go_sem, v0, c1, c2, c3, c4]
      · obtain ⟨W, hW, e1, e2⟩ := two (by decide)
        obtain ⟨c1, c2, c3, c4⟩ := cells W hW
        cases Option.some.inj ho
        have v0 := hF.from_ (d := 6) (by kernel_rfl)
        refine .inl ?_
        simp only [e1, e2]
        simp [go_sem, v0, c1, c2, c3, c4]
      · obtain ⟨W, hW, e1, e2⟩ := two (by decide)
        obtain ⟨c1, c2, c3, c4⟩ := cells W hW
        cases Option.some.inj ho
        have v0 := hF.from_ (d := 3) (by kernel_rfl)
        refine .inl ?_
        simp only [e1, e2]
        simp [go_sem, v0, c1, c2, c3, c4]
      · obtain ⟨W, hW, e1, e2⟩ := two (by decide)
        obtain ⟨c1, c2, c3, c4⟩ := cells W hW
        cases Option.some.inj ho
        have v0 := hF.val 3 _ 36 rfl rfl (Flow.dep hr ho (j := 3) (by kernel_rfl))
        refine .inl ?_
        simp only [e1, e2]
        simp [go_sem, v0, c1, c2, c3, c4]
      · obtain ⟨W, hW, e1, e2⟩ := two (by decide)
        obtain ⟨c1, c2, c3, c4⟩ := cells W hW
        cases Option.some.inj ho
        have v0 := hF.val 4 _ 37 rfl rfl (Flow.dep hr ho (j := 4) (by kernel_rfl))
        refine .inl ?_
        simp only [e1, e2]
        simp [go_sem, v0, c1, c2, c3, c4]
      · obtain ⟨W, hW, e1, e2⟩ := two (by decide)
        obtain ⟨c1, c2, c3, c4⟩ := cells W hW
        cases Option.some.inj ho
        have v0 := hF.val 2 _ 35 rfl rfl (Flow.dep hr ho (j := 2) (by kernel_rfl))
        have v1 := hF.val 5 _ 38 rfl rfl (Flow.dep hr ho (j := 5) (by kernel_rfl))
        refine .inl ?_
        simp only [e1, e2]
        simp [go_sem, v0, v1, c1, c2, c3, c4]
        rw [if_neg (by omega), wrap_u64 (by have := Int.ediv_nonneg (a := (t : Int)) (b := (d : Int)) (by omega) (by omega); exact this) (by have := Int.ediv_le_self (a := (t : Int)) (b := (d : Int)) (by omega); omega)]
      · obtain ⟨W, hW, e1, e2⟩ := two (by decide)
        obtain ⟨c1, c2, c3, c4⟩ := cells W hW
        cases Option.some.inj ho
        have v0 := hF.from_ (d := 6) (by kernel_rfl)
        refine .inl ?_
        simp only [e1, e2]
        simp [go_sem, v0, c1, c2, c3, c4]
      · obtain ⟨W, hW, e1, e2⟩ := two (by decide)
        obtain ⟨c1, c2, c3, c4⟩ := cells W hW
        cases Option.some.inj ho
        have v0 := hF.from_ (d := 3) (by kernel_rfl)
        refine .inl ?_
        simp only [e1, e2]
        simp [go_sem, v0, c1, c2, c3, c4]
      · obtain ⟨W, hW, e1, e2⟩ := two (by decide)
        obtain ⟨c1, c2, c3, c4⟩ := cells W hW
        cases Option.some.inj ho
        have v0 := hF.val 8 _ 41 rfl rfl (Flow.dep hr ho (j := 8) (by kernel_rfl))
        refine .inl ?_
        simp only [e1, e2]
        simp [go_sem, v0, c1, c2, c3, c4]
      · obtain ⟨W, hW, e1, e2⟩ := two (by decide)
        obtain ⟨c1, c2, c3, c4⟩ := cells W hW
        cases Option.some.inj ho
        have v0 := hF.val 9 _ 42 rfl rfl (Flow.dep hr ho (j := 9) (by kernel_rfl))
        refine .inl ?_
        simp only [e1, e2]
        simp [go_sem, v0, c1, c2, c3, c4]
      · obtain ⟨W, hW, e1, e2⟩ := two (by decide)
        obtain ⟨c1, c2, c3, c4⟩ := cells W hW
        cases Option.some.inj ho
        have v0 := hF.val 7 _ 40 rfl rfl (Flow.dep hr ho (j := 7) (by kernel_rfl))
        have v1 := hF.val 10 _ 43 rfl rfl (Flow.dep hr ho (j := 10) (by kernel_rfl))
        refine .inl ?_
        simp only [e1, e2]
        simp [go_sem, v0, v1, c1, c2, c3, c4]
        rw [if_neg (by omega), Int.tmod_eq_emod_of_nonneg (by omega)]
      · obtain ⟨W, hW, e1, e2⟩ := two (by decide)
        obtain ⟨c1, c2, c3, c4⟩ := cells W hW
        cases Option.some.inj ho
        have v0 := hF.val 0 _ 33 rfl rfl (Flow.dep hr ho (j := 0) (by kernel_rfl))
        have v1 := hF.val 1 _ 34 rfl rfl (Flow.dep hr ho (j := 1) (by kernel_rfl))
        refine .inl ?_
        simp only [e1, e2]
        simp [go_sem, v0, v1, c1, c2, c3, c4]
        intro h; omega
      · cases Option.some.inj ho
        have v0 := hF.val 12 _ 45 rfl rfl (Flow.dep hr ho (j := 12) (by kernel_rfl))
        have v1 := hF.val 6 _ 39 rfl rfl (Flow.dep hr ho (j := 6) (by kernel_rfl))
        have cg' : ({ W5 with drawn := W5.drawn + 1 } : World).cell? ⟨g, pi, none⟩ = some (.int .u64 (o : Int)) := cg
        have fg' : ({ W5 with drawn := W5.drawn + 1 } : World).frozen? ⟨g, pi, none⟩ = false := fg
        have e1 : (if L.getD 14 false = true then W7 else if L.getD 13 false = true then W6 else { W5 with drawn := W5.drawn + 1 }) = { W5 with drawn := W5.drawn + 1 } := by rw [hun, h14 (by decide)]; simp
        have e2 : (if (L.setIfInBounds 13 true).getD 14 false = true then W7 else if (L.setIfInBounds 13 true).getD 13 false = true then W6 else { W5 with drawn := W5.drawn + 1 }) = W6 := by rw [getD_set_ne false (by decide : 13 ≠ 14), h14 (by decide), getD_set_same (by rw [hLs]; decide)]; simp
        refine .inr ⟨rfl, ?_⟩
        simp only [e1, e2]
        simp [go_sem, v0, v1, cg, fg, ← hW6]
      · cases Option.some.inj ho
        have v0 := hF.from_ (d := 6) (by kernel_rfl)
        have v1 := hF.val 11 _ 44 rfl rfl (Flow.dep hr ho (j := 11) (by kernel_rfl))
        have e1 : (if L.getD 14 false = true then W7 else if L.getD 13 false = true then W6 else { W5 with drawn := W5.drawn + 1 }) = W6 := by rw [hun, Flow.dep hr ho (j := 13) (by kernel_rfl)]; simp
        have e2 : (if (L.setIfInBounds 14 true).getD 14 false = true then W7 else if (L.setIfInBounds 14 true).getD 13 false = true then W6 else { W5 with drawn := W5.drawn + 1 }) = W7 := by rw [getD_set_same (by rw [hLs]; decide)]; simp
        refine .inr ⟨rfl, ?_⟩
        simp only [e1, e2]
        simp [go_sem, v0, v1, cr6, fr6, ← hW7]
    case fin =>
      intro L hL hall
      rw [hall 14 (by decide)]
      simp [flowActs, Act.put]
      gi_wp2
      rw [ht] at HFS
      refine ⟨hK7, ⟨hBW7, hx7.trans hxW.symm⟩, ⟨hp7, hq7, ?_, ?_, hx7⟩, hB7⟩
      · rw [HFS.out]; exact hg7
      · rw [HFS.out]; exact hr7
  case done =>
    rintro D ys W hD hys ⟨⟨hpW, hqW, hgW, hrW, hxW⟩, hBW⟩ hK
    have hxn : xs.length = n := by rw [HX.out]; exact HL.out
    have hB := div_bwd hdig hd hdb xs.length (Nat.le_refl _)
    have hfold : (bwd xs xs.length).foldl (divStep d) (0, List.replicate xs.length 0) = divFold d ys := by
      unfold divFold
      rw [hys, hxn]
    rw [hfold, Nat.sub_self, List.drop_zero, List.drop_zero, HX.out, val_pcs (by decide), ← HX.out] at hB
    obtain ⟨⟨R, qs⟩, hst⟩ : ∃ st, divFold d ys = st := ⟨_, rfl⟩
    rw [hst] at hgW hrW hB
    simp only at hgW hrW hB
    obtain ⟨hR, hql, hqd, hqv⟩ := hB
    rw [hxn] at hql
    have htq : trimL qs = pcs 1000000000 (x / d) := by rw [← hqv]; exact trim_pcs' (by decide) hqd
    have hRd : R < d := by rw [hR]; exact Nat.mod_lt _ hd
    have htr : trimL [R] = pcs 1000000000 (x % d) := by rw [← hR, pcs_one (by omega)]
    have HR := Lib.hid hR; clear hR
    have HTQ := Lib.hid htq
    have HTR := Lib.hid htr
    clear htq htr hfold hst hys
    have cqW : W.cell? ⟨w.heap.size + 1, 0, none⟩ = some (.slice (some ⟨g, 0, none⟩) n n) := by rw [Lib.cell_of_heap hqW]; rfl
    have crW : W.cell? ⟨g + 1, 0, none⟩ = some (.int .u64 (R : Int)) := by rw [Lib.cell_of_heap hrW]; rfl
    have mixed : Tryz.prog.follows .mixedOrders = true := by kernel_rfl
    gi_wp2
    have hI1 : IsU .u64 W.drew W.drew.heap.size (some ⟨g, 0, none⟩) n n qs := IsU.of_block (w := W.drew) hgW hql
    have hI2 : IsU .u64 (W.alloc (.cells #[.int .u64 (R : Int)] 145)).drew (W.alloc (.cells #[.int .u64 (R : Int)] 145)).drew.heap.size (some ⟨g, 0, none⟩) n n qs := IsU.of_block (w := (W.alloc (.cells #[.int .u64 (R : Int)] 145)).drew) ((Below.heap_alloc W _ _ (lt_of_block' hgW)).trans hgW) hql
    have hI3 : IsU .u64 (W.alloc (.cells #[.int .u64 (R : Int)] 145)).drew (W.alloc (.cells #[.int .u64 (R : Int)] 145)).drew.heap.size (some ⟨W.heap.size, 0, none⟩) 1 1 [R] := IsU.of_block (w := (W.alloc (.cells #[.int .u64 (R : Int)] 145)).drew) (xs := [R]) (heap_alloc_new W _) rfl
    have hal : ∀ p : Addr, p.block < W.heap.size → (W.alloc (.cells #[.int .u64 (R : Int)] 145)).cell? p = W.cell? p := fun p hp => World.cell?_alloc_lt _ _ _ hp
    have cq2 : (W.alloc (.cells #[.int .u64 (R : Int)] 145)).cell? ⟨w.heap.size + 1, 0, none⟩ = some (.slice (some ⟨g, 0, none⟩) n n) := (hal _ (lt_of_block' hqW)).trans cqW
    have cr2 : (W.alloc (.cells #[.int .u64 (R : Int)] 145)).cell? ⟨g + 1, 0, none⟩ = some (.int .u64 (R : Int)) := (hal _ (lt_of_block' hrW)).trans crW
    have fq2 : (W.alloc (.cells #[.int .u64 (R : Int)] 145)).frozen? ⟨w.heap.size + 1, 0, none⟩ = false := Lib.frozen_of_heap ((Below.heap_alloc W _ _ (lt_of_block' hqW)).trans hqW) 0
    have hc1 := (callsIn_wide (n := 8)).2 (trim_any (some ⟨g, 0, none⟩) n n qs _ hI1 (by omega))
    have hc2 := (callsIn_wide (n := 8)).2 (trim_any (some ⟨g, 0, none⟩) n n qs _ hI2 (by omega))
    have hc3 := (callsIn_wide (n := 8)).2 (trim_any (some ⟨W.heap.size, 0, none⟩) 1 1 [R] _ hI3 (by omega))
    first | (gi_region_with_o (first
      | (refine ⟨trivial, ?_⟩; with_reducible refine CallsIn.mono hc1 ?_; rintro e w' ⟨rfl, rfl⟩)
      | (refine ⟨trivial, ?_⟩; with_reducible refine CallsIn.mono hc2 ?_; rintro e w' ⟨rfl, rfl⟩)
      | (refine ⟨trivial, ?_⟩; with_reducible refine CallsIn.mono hc3 ?_; rintro e w' ⟨rfl, rfl⟩))) | fail
    all_goals gi_wp2
    all_goals (
      have a1 := (Below.heap_alloc W (.cells #[.int .u64 (R : Int)] 145) _ (lt_of_block' hqW)).trans hqW
      have a2 := (Below.heap_alloc W (.cells #[.int .u64 (R : Int)] 145) _ (lt_of_block' hgW)).trans hgW
      have a3 := (Below.heap_alloc W (.cells #[.int .u64 (R : Int)] 145) _ (Array.getElem?_eq_some_iff.1 hK).1).trans hK
      have a4 : (W.alloc (.cells #[.int .u64 (R : Int)] 145)).heap[W.heap.size]? = some (.cells #[.int .u64 (R : Int)] 145 (0, 0)) := heap_alloc_new W _
      have hDl := (Array.getElem?_eq_some_iff.1 hK).1
      have hbl := lt_of_block' hbox
      have hqWl := lt_of_block' hqW
      have hgWl := lt_of_block' hgW
      have h9q : ((W.alloc (.cells #[.int .u64 (R : Int)] 145)).setCell ⟨w.heap.size + 1, 0, none⟩ (.slice (some ⟨g, 0, none⟩) (trimL qs).length n)).drew.heap[w.heap.size + 1]? = some (.cells #[.slice (some ⟨g, 0, none⟩) (trimL qs).length n] 109 (0, 0)) := by
        simp [World.drew, World.setCell, Array.getElem?_modify, a1]
      have h9g : ((W.alloc (.cells #[.int .u64 (R : Int)] 145)).setCell ⟨w.heap.size + 1, 0, none⟩ (.slice (some ⟨g, 0, none⟩) (trimL qs).length n)).drew.heap[g]? = some (.cells (us .u64 qs).toArray 145 (0, 0)) := (hsC _ _ _ _ (by simp; omega)).trans a2
      have h9D : ((W.alloc (.cells #[.int .u64 (R : Int)] 145)).setCell ⟨w.heap.size + 1, 0, none⟩ (.slice (some ⟨g, 0, none⟩) (trimL qs).length n)).drew.heap[D]? = some (.deferred (some [])) := (hsC _ _ _ _ (by simp; omega)).trans a3
      have h9r : ((W.alloc (.cells #[.int .u64 (R : Int)] 145)).setCell ⟨w.heap.size + 1, 0, none⟩ (.slice (some ⟨g, 0, none⟩) (trimL qs).length n)).drew.heap[W.heap.size]? = some (.cells #[.int .u64 (R : Int)] 145 (0, 0)) := (hsC _ _ _ _ (by simp; omega)).trans a4
      have hB9 : Below w.heap.size w ((W.alloc (.cells #[.int .u64 (R : Int)] 145)).setCell ⟨w.heap.size + 1, 0, none⟩ (.slice (some ⟨g, 0, none⟩) (trimL qs).length n)).drew := ((hBW.alloc hBW.size _).setCell (p := ⟨w.heap.size + 1, 0, none⟩) (by simp) _).drew
      obtain ⟨W9, hW9⟩ : ∃ W9, ((W.alloc (.cells #[.int .u64 (R : Int)] 145)).setCell ⟨w.heap.size + 1, 0, none⟩ (.slice (some ⟨g, 0, none⟩) (trimL qs).length n)).drew = W9 := ⟨_, rfl⟩
      rw [hW9] at h9q h9g h9D h9r hB9 ⊢
      clear hW9
      have hBl := hB9.trans (belowK_b (w := w) (Nat.le_refl _) W9 D _ (.deferred none) (by have := hBW.size; have := hB3.size; omega) h9D rfl rfl)
      have p9q : (W9.putObj D (.deferred none)).heap[w.heap.size + 1]? = some (.cells #[.slice (some ⟨g, 0, none⟩) (trimL qs).length n] 109 (0, 0)) := (World.putObj_heap_other (by omega)).trans h9q
      have p9g : (W9.putObj D (.deferred none)).heap[g]? = some (.cells (us .u64 qs).toArray 145 (0, 0)) := (World.putObj_heap_other (by omega)).trans h9g
      have p9r : (W9.putObj D (.deferred none)).heap[W.heap.size]? = some (.cells #[.int .u64 (R : Int)] 145 (0, 0)) := (World.putObj_heap_other (by omega)).trans h9r
      have c9q : (W9.putObj D (.deferred none)).cell? ⟨w.heap.size + 1, 0, none⟩ = some (.slice (some ⟨g, 0, none⟩) (trimL qs).length n) := by rw [Lib.cell_of_heap p9q]; rfl
      have hQ1 := (IsU.of_block p9g hql).trim
      have hQ2 := (IsU.of_block (xs := [R]) p9r rfl).trim
      have e1 := HTQ.out
      have e2 := HTR.out
      have hres : DivRes x d (.returned (.tuple #[.slice (some ⟨g, 0, none⟩) (trimL qs).length n, .slice (some ⟨W.heap.size, 0, none⟩) (trimL [R]).length 1])) (W9.putObj D (.deferred none)) :=
        ⟨_, _, _, _, _, _, rfl, by rw [← e1]; exact hQ1, by rw [← e2]; exact hQ2⟩
      refine ⟨by simp, .inl ⟨_, _, rfl, run_takeDeferred h9D, ?_⟩⟩
      refine ⟨_, ?_, hres, hBl⟩
      simp [results, Tryz.results106, go_sem, c9q])
  case stop =>
    rintro D c pre W _ _ h _
    exact h.elim

end Go.Proofs.YtgfgpepdkffhbaaGreatDoor.Kl
