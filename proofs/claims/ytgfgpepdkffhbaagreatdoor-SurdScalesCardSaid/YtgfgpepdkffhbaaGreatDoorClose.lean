/- The walk of (integer.number).close: a number's text, piece by piece. -/
import Derived.Test.YtgfgpepdkffhbaaGreatDoorBack
import Derived.Test.YtgfgpepdkffhbaaGreatDoorBuild
import Derived.Test.YtgfgpepdkffhbaaGreatDoorNums
import Derived.Outline
namespace Go.Proofs.YtgfgpepdkffhbaaGreatDoor.Kl
open Go.RowKit Go.Shelf
open Go.Lib (itoa)
set_option linter.unusedVariables false
set_option linter.unusedSimpArgs false
attribute [local go_sem] Oper.semAt_some

theorem byte_app (a : List UInt8) (s : ByteArray) : Lib.byteCells a ++ Lib.strCells s = Lib.byteCells (a ++ s.data.toList) := by
  simp [Lib.byteCells, Lib.strCells]

/-- a builder stays where what is no cells turns. -/
theorem bld_kept {B b : Nat} {bs : List Value} {W W' : World} {row : Option Nat} (h : Bld B b bs W) (hg : W.grownBy W' row) (hr : ∀ r, row = some r → ∃ o : Obj, W.heap[r]? = some o ∧ o.isCells = false) : Bld B b bs W' := by
  have hk : ∀ (k : Nat) (cs : Array Value) (t : TypeId) (fz : Nat × Nat), W.heap[k]? = some (.cells cs t fz) → W'.heap[k]? = some (.cells cs t fz) := fun k cs t fz hk => by
    refine (hg.block k (lt_of_block' hk) (fun e => ?_)).trans hk
    obtain ⟨o, ho, hc⟩ := hr k e.symm
    rw [hk] at ho
    cases ho
    cases hc
  have at_ : ∀ p, BldAt B b p bs W → BldAt B b p bs W' := fun p ⟨hB, v, hb, ⟨h1, h2⟩, hne⟩ => by
    refine ⟨hB, v, hk _ _ _ _ hb, ⟨h1, ?_⟩, hne⟩
    rcases h2 with h2 | ⟨g, cap, cur, rfl, hg', hh, r⟩
    · exact .inl h2
    · exact .inr ⟨g, cap, cur, rfl, hg', hk _ _ _ _ hh, r⟩
  rcases h with h | h
  · exact .inl (at_ _ h)
  · exact .inr (at_ _ h)

theorem block_kept {W W' : World} {row : Option Nat} {k : Nat} {cs : Array Value} {t : TypeId} {fz : Nat × Nat} (hk : W.heap[k]? = some (.cells cs t fz)) (hg : W.grownBy W' row) (hr : ∀ r, row = some r → ∃ o : Obj, W.heap[r]? = some o ∧ o.isCells = false) : W'.heap[k]? = some (.cells cs t fz) := by
  refine (hg.block k (lt_of_block' hk) (fun e => ?_)).trans hk
  obtain ⟨o, ho, hc⟩ := hr k e.symm
  rw [hk] at ho
  cases ho
  cases hc

/-- the text of a piece at a place: with zeros ahead, but for the first one. -/
def pieceText (len : Nat) (p : Nat × Nat) : List UInt8 := (if p.1 + 1 < len then List.replicate (9 - (Lib.decDigits p.2).length) 48 else []) ++ Lib.decDigits p.2
def partText (sg : List UInt8) (len : Nat) (l : List (PieceAt len)) : List UInt8 := sg ++ (vals l).flatMap (pieceText len)
theorem partText_snoc (sg : List UInt8) (len : Nat) (l : List (PieceAt len)) (x : PieceAt len) : partText sg len (l ++ [x]) = partText sg len l ++ pieceText len x.1 := by
  simp [partText, vals_snoc, List.flatMap_append]
theorem dec_le9 {v : Nat} (h : v < 1000000000) : (Lib.decDigits v).length ≤ 9 := dec_len_le (k := 9) (by omega) (by decide)
theorem pieceText_len (len : Nat) (x : PieceAt len) : (pieceText len x.1).length ≤ 9 := by
  have := dec_le9 x.2.2
  unfold pieceText
  split <;> simp <;> omega
theorem partText_len (sg : List UInt8) (len : Nat) (l : List (PieceAt len)) : (partText sg len l).length ≤ sg.length + 9 * l.length := by
  refine snoc_ind (P := fun l : List (PieceAt len) => (partText sg len l).length ≤ sg.length + 9 * l.length) ?_ ?_ l
  · simp [partText, vals]
  · intro l x ih
    rw [partText_snoc]
    have := pieceText_len len x
    simp only [List.length_append, List.length_singleton]
    omega

theorem bwd_text {xs : List Nat} (hd : Dig 1000000000 xs) (hl : ∀ h : xs ≠ [], xs.getLast h ≠ 0) : ∀ k, k ≤ xs.length → 0 < k → (bwd xs k).flatMap (pieceText xs.length) = Lib.decDigits (val 1000000000 (xs.drop (xs.length - k))) ∧ val 1000000000 (xs.drop (xs.length - k)) ≠ 0
  | 0, _, h0 => by omega
  | k + 1, hk, _ => by
    have hi : xs.length - 1 - k < xs.length := by omega
    have e1 : xs.drop (xs.length - (k + 1)) = xs[xs.length - 1 - k] :: xs.drop (xs.length - k) := by
      rw [show xs.length - (k + 1) = xs.length - 1 - k by omega, List.drop_eq_getElem_cons hi, show xs.length - 1 - k + 1 = xs.length - k by omega]
    have hlt := hd.get hi
    rw [bwd_succ, List.flatMap_append, e1, val, List.getElem?_eq_getElem hi, Option.getD_some]
    simp only [List.flatMap_cons, List.flatMap_nil, List.append_nil]
    rcases Nat.eq_zero_or_pos k with h0 | h0
    · subst h0
      have hne : xs ≠ [] := fun e => by subst e; simp at hk
      have hlast : xs[xs.length - 1 - 0] ≠ 0 := by
        have := hl hne
        rwa [List.getLast_eq_getElem hne] at this
      simp only [bwd, List.range_zero, List.map_nil, List.flatMap_nil, List.nil_append, Nat.sub_zero, List.drop_length, val, Nat.mul_zero, Nat.add_zero]
      refine ⟨?_, hlast⟩
      unfold pieceText
      rw [if_neg (by simp; omega)]
      simp
    · obtain ⟨ih, hnz⟩ := bwd_text hd hl k (by omega) h0
      refine ⟨?_, by have : 1000000000 * val 1000000000 (xs.drop (xs.length - k)) ≠ 0 := by omega
                     omega⟩
      rw [ih, Nat.add_comm, Nat.mul_comm, show (1000000000 : Nat) = 10 ^ 9 from rfl, dec_cut hnz hlt]
      congr 1
      unfold pieceText
      rw [if_pos (by simp; omega), pad_eq hlt (by decide)]

theorem keepsOthers_of {e : TypeId} {b : Nat} {W W' : World} {cs : Array Value} {t : TypeId} {fz : Nat × Nat} (hb : W.heap[b]? = some (.cells cs t fz)) (hs : W.heap.size ≤ W'.heap.size) (h : Lib.OthersKept e (some b) W W') : KeepsOthers W W' :=
  ⟨hs, fun k o hk ho => h k o hk (fun e' => by cases e'; rw [hb] at hk; cases hk; cases ho) (fun c fz e' => by subst e'; cases ho)⟩

theorem bld_heap {B b : Nat} {bs : List Value} {W : World} (h : Bld B b bs W) : ∃ p v, W.heap[b]? = some (.cells #[p, v] 97 (0, 0)) := by
  rcases h with ⟨_, v, h, _⟩ | ⟨_, v, h, _⟩ <;> exact ⟨_, v, h⟩

theorem bldF {B b : Nat} {bs : List Value} {W : World} (h : Bld B b bs W) : Lib.IsBuilderF 97 5 B b bs W := by
  rcases h with h | h
  · exact .inl (Lib.BuilderAtF.of h)
  · exact .inr (Lib.BuilderAtF.of h)

theorem grown_of_below {W W' : World} (h : Below W.heap.size W W') : W.grownBy W' none := ⟨h.os, h.tape, h.output, h.size, fun i hi _ => h.block i hi⟩

theorem nines_from (s : List UInt8) (h : s.length ≤ 9) : (⟨#[48, 48, 48, 48, 48, 48, 48, 48, 48]⟩ : ByteArray).extract s.length 9 = ⟨(List.replicate (9 - s.length) 48).toArray⟩ := by
  match hs : s.length, h with
  | 0, _ => rfl
  | 1, _ => rfl
  | 2, _ => rfl
  | 3, _ => rfl
  | 4, _ => rfl
  | 5, _ => rfl
  | 6, _ => rfl
  | 7, _ => rfl
  | 8, _ => rfl
  | 9, _ => rfl
  | k + 10, h => omega

set_option maxRecDepth 100000 in
set_option maxHeartbeats 4000000 in
theorem close_pos (m : Bool) (A : Option Addr) (len c : Nat) (x : Nat) (hx : x ≠ 0) (w : World) (hW : Wd w) (h : IsU .u64 w w.heap.size A len c (pcs 1000000000 x)) (hm : len ≤ 4294967296) :
    Calls Tryz.prog 69 #[.agg #[.bool m, .slice A len c]] w fun e w' => e = .returned (.string (txt (if m then -(x : Int) else (x : Int)))) ∧ Below w.heap.size w w' := by
  refine (callsIn_wide (n := 9)).1 ?_
  obtain ⟨xs, hxs⟩ : ∃ xs, xs = pcs 1000000000 x := ⟨_, rfl⟩
  rw [← hxs] at h
  have hlen := h.len
  have hpos : 0 < len := by
    have : xs ≠ [] := by rw [hxs]; exact fun e => hx ((pcs_nil_iff (by decide)).1 e)
    have := List.length_pos_iff.2 this
    omega
  have HX := Lib.hid hxs; clear hxs
  have HL := Lib.hid hlen; clear hlen
  refine callsIn_of_wp_marks Tryz.func69 rfl trivial ?_ rfl
  simp only [Tryz.ntmps69, List.size_toArray, List.length_cons, List.length_nil, Nat.reduceAdd, Nat.reduceSub, Array.replicate_succ, Array.replicate_zero, List.push_toArray, List.append_toArray, List.nil_append, List.cons_append]
  have hbx : Below w.heap.size w ((w.alloc (.cells #[.bool m, .slice A len c] 111)).alloc (.cells #[.pointer none, .slice none 0 0] 97)) := ((Below.refl _ _).alloc (Nat.le_refl _) _).alloc (by simp) _
  have hbld : Bld (w.heap.size + 1) (w.heap.size + 1) (Lib.byteCells []) ((w.alloc (.cells #[.bool m, .slice A len c] 111)).alloc (.cells #[.pointer none, .slice none 0 0] 97)) := by
    have := Lib.fresh_isBuilder 97 5 (w.alloc (.cells #[.bool m, .slice A len c] 111))
    rw [World.size_alloc] at this
    exact this
  have hnum : ((w.alloc (.cells #[.bool m, .slice A len c] 111)).alloc (.cells #[.pointer none, .slice none 0 0] 97)).heap[w.heap.size]? = some (.cells #[.bool m, .slice A len c] 111 (0, 0)) :=
    (Below.heap_alloc _ _ _ (by simp)).trans (heap_alloc_new w _)
  obtain ⟨W0, hW0⟩ : ∃ W0, W0 = (w.alloc (.cells #[.bool m, .slice A len c] 111)).alloc (.cells #[.pointer none, .slice none 0 0] 97) := ⟨_, rfl⟩
  rw [← hW0] at hbx hbld hnum
  have HW0 := Lib.hid hW0; clear hW0
  -- THE WALK
  have hlz : ((len : Int) == 0) = false := by simp; omega
  have hdig : Dig 1000000000 xs := by rw [HX.out]; exact dig_pcs (by decide) x
  cases m
  · gi_wp2_with (first
      | (refine ⟨trivial, ?_⟩; gi_at_call 111; refine (back_in Fence.wide _ trivial rfl _ _ _ _).mono ?_; rintro e w' ⟨rfl, rfl⟩))
    rw [← HW0.out]
    obtain ⟨W1, hW1⟩ : ∃ W1, W1 = W0 := ⟨_, rfl⟩
    have hsz : W0.heap.size = w.heap.size + 1 + 1 := by rw [HW0.out]; simp
    rw [← hW1] at hbx hbld hnum hsz ⊢
    have hbld1 := hbld
    have hn1 := hnum
    clear hW1 HW0 hbld hnum
    have hB1' : Below w.heap.size w W1 := hbx
    have hbld1' : Bld (w.heap.size + 1) (w.heap.size + 1) (Lib.byteCells (partText [] len [])) W1 := by simpa [partText, vals, Lib.byteCells] using hbld1
    have hIU := (h.below hB1').more (Nat.le_refl w.heap.size)
    have hbox : (W1.alloc (.cells #[.slice A len c] 109)).heap[W1.heap.size]? = some (.cells #[.slice A len c] 109 (0, 0)) := heap_alloc_new W1 _
    have hnb : W1.heap.size ≠ w.heap.size + 1 := by
      obtain ⟨pp, vv, hh⟩ := bld_heap hbld1
      have := lt_of_block' hh
      omega
    obtain ⟨Bs, hBs⟩ : ∃ Bs, W1.heap.size = Bs := ⟨_, rfl⟩
    rw [hBs] at hbox hnb
    rw [show w.heap.size + 1 + 1 = Bs by omega]
    have hBsl : Bs < (W1.alloc (.cells #[.slice A len c] 109)).heap.size := by simp; omega
    have hBsw : w.heap.size ≤ Bs := by have := hB1'.size; omega
    have hB2 : Below w.heap.size w (W1.alloc (.cells #[.slice A len c] 109)) := hB1'.alloc hB1'.size _
    have hbld2 : Bld (w.heap.size + 1) (w.heap.size + 1) (Lib.byteCells (partText [] len [])) (W1.alloc (.cells #[.slice A len c] 109)) := bld_kept hbld1' (World.grownBy_alloc W1 _ none) (fun r e => by cases e)
    have hn2 : (W1.alloc (.cells #[.slice A len c] 109)).heap[w.heap.size]? = some (.cells #[.bool false, .slice A len c] 111 (0, 0)) := (Below.heap_alloc W1 _ _ (lt_of_block' hn1)).trans hn1
    have hIU2 : IsU .u64 (W1.alloc (.cells #[.slice A len c] 109)) w.heap.size A len c xs := h.below hB2
    obtain ⟨W2, hW2⟩ : ∃ W2, W1.alloc (.cells #[.slice A len c] 109) = W2 := ⟨_, rfl⟩
    rw [hW2] at hbox hBsl hB2 hbld2 hn2 hIU2 ⊢
    have hBs2 := Lib.hid hBs; clear hBs hW2
    refine wpIn_rangeFunc_ownF rfl (by decide) (gf := 129) (lb := #[.pointer (some ⟨Bs, 0, none⟩)]) rfl trivial (enters_of Tryz.func129 (by kernel_rfl) rfl)
      (back_stops Fence.wide _ trivial rfl (by decide) Bs w.heap.size len c A xs (by omega) hdig W2 hbox hB2.size hIU2)
      (fun h1 h2 => ⟨h1.1.trans h2.1, h2.2.trans h1.2⟩) (fun W l o o' hl ho hc hw => ⟨belowK_b (w := W2) hB2.size W l o o' hl ho hc hw, World.putObj_heap_other (by omega)⟩) (Below.refl _ _) (fun _ => rfl)
      (fun pre W => (Bld (w.heap.size + 1) (w.heap.size + 1) (Lib.byteCells (partText [] len pre)) W ∧ W.heap[w.heap.size]? = some (.cells #[.bool false, .slice A len c] 111 (0, 0)) ∧ W.heap[Bs]? = some (.cells #[.slice A len c] 109 (0, 0))) ∧ Below w.heap.size w W)
      (fun _ _ _ => False)
      (OwnFrom.and (Own.from (fun s A' B' row hs hg hr => ⟨bld_kept hs.1 hg hr, block_kept hs.2.1 hg hr, block_kept hs.2.2 hg hr⟩) _) (ownFrom_below (Nat.le_refl _) hB2.size))
      (fun _ _ _ _ _ hs _ _ => hs)
      ⟨⟨hbld2, hn2, hbox⟩, hB2⟩
      (fun y => { tmps := #[.agg #[.bool false, .slice A len c], .pointer (some ⟨w.heap.size, 0, none⟩), .string ⟨#[]⟩, .pointer (some ⟨w.heap.size + 1, 0, none⟩), .int .i64 (y.1.1 : Int), .int .u64 (y.1.2 : Int), undef, .pointer (some ⟨w.heap.size, 1, none⟩), .slice A len c, .int .i64 (len : Int), .bool false, .pointer (some ⟨w.heap.size, 0, none⟩), .bool false, undef, .pointer (some ⟨w.heap.size, 1, none⟩), .slice A len c, .func (.func 129) #[] #[.pointer (some ⟨Bs, 0, none⟩)], .int .i64 (y.1.1 : Int), .int .u64 (y.1.2 : Int), undef, undef, undef, undef, undef, undef, undef, undef, undef, undef, undef, undef, undef, undef, undef], defers := [] }) ?assignF ?bodyF ?doneF ?stopF
    case assignF =>
      intro l y W K hK
      simp only [encB]
      gi_wp2
      exact hK
    case bodyF =>
      rintro l pre y W ⟨⟨hbW, hnW, hxW⟩, hBW⟩ hpre
      have hc1 : W.cell? ⟨w.heap.size, 1, none⟩ = some (.slice A len c) := by rw [Lib.cell_of_heap hnW]; rfl
      have hWW : Wd W := hW.below hBW
      have htl := partText_len [] len pre
      have htn := partText_snoc [] len pre y
      obtain ⟨⟨pi, pv⟩, hpip, hpv⟩ := y
      have h9 := dec_le9 hpv
      have hs9 := nines_from _ h9
      simp only at htn
      have HTN := Lib.hid htn; clear htn
      have HS9 := Lib.hid hs9; clear hs9
      obtain ⟨T, hT⟩ : ∃ T, partText [] len pre = T := ⟨_, rfl⟩
      rw [hT] at hbW htl HTN
      clear hT
      obtain ⟨s, hs⟩ : ∃ s, Lib.decDigits pv = s := ⟨_, rfl⟩
      have hfm := formatUint_any pv (by omega) W hWW
      rw [hs] at h9 HS9 hfm
      have HSs := Lib.hid hs; clear hs
      have hts : T.length ≤ 39000000000 := by simp at htl; omega
      by_cases hlt : pi + 1 < len
      · have hpt : pieceText len (pi, pv) = List.replicate (9 - s.length) 48 ++ s := by unfold pieceText; rw [if_pos hlt, HSs.out]
        have HPT := Lib.hid hpt; clear hpt
        gi_wp2_with fail
        refine ⟨trivial, ?_⟩
        refine (CallsIn.inRound l (callsIn_wide.2 hfm)).mono ?_
        rintro e Wf ⟨rfl, hbf⟩
        have hgf := grown_of_below hbf
        have hbF := bld_kept hbW hgf (fun r e => by cases e)
        have hnF := block_kept hnW hgf (fun r e => by cases e)
        have hxF := block_kept hxW hgf (fun r e => by cases e)
        have hBF := hBW.trans (hbf.mono hBW.size)
        have hcF : Wf.cell? ⟨w.heap.size, 1, none⟩ = some (.slice A len c) := by rw [Lib.cell_of_heap hnF]; rfl
        have hKF : KeepsOthers W Wf := ⟨hbf.size, fun k o hk ho => (hbf.block k (lt_of_block' hk)).trans hk⟩
        clear hc1
        gi_wp2_with fail
        rw [HS9.out]
        refine ⟨trivial, ?_⟩
        refine (CallsIn.inRound l (callsIn_wide.2 (writeString_any (w.heap.size + 1) (w.heap.size + 1) (Lib.byteCells T) ⟨(List.replicate (9 - s.length) 48).toArray⟩ Wf hbF (by simp [Lib.byteCells, ByteArray.size]; omega) (by have := lt_of_block' hxF; have := hBF.size; omega)))).mono ?_
        rintro e Wg ⟨rfl, hbWg, hlWg, hoWg⟩
        rw [byte_app] at hbWg
        obtain ⟨qF, rF, hhF⟩ := bld_heap hbF
        have hKWg := hKF.trans (keepsOthers_of hhF hlWg.size hoWg)
        have hBWg := hBF.trans (hlWg.mono (by omega))
        have hnWg := (hlWg.block _ (by omega)).trans hnF
        have hxWg := hoWg _ _ hxF (fun e' => hnb (by injection e')) (fun c' fz e' => by injection e' with _ e2; cases e2)
        gi_wp2_with fail
        refine ⟨trivial, ?_⟩
        refine (CallsIn.inRound l (callsIn_wide.2 (writeString_any (w.heap.size + 1) (w.heap.size + 1) (Lib.byteCells (T ++ (⟨(List.replicate (9 - s.length) 48).toArray⟩ : ByteArray).data.toList)) ⟨s.toArray⟩ Wg hbWg (by simp [Lib.byteCells, ByteArray.size]; omega) (by have := lt_of_block' hxWg; have := hBWg.size; omega)))).mono ?_
        rintro e Wh ⟨rfl, hbWh, hlWh, hoWh⟩
        rw [byte_app] at hbWh
        obtain ⟨qWg, rWg, hhWg⟩ := bld_heap hbWg
        have hKWh := hKWg.trans (keepsOthers_of hhWg hlWh.size hoWh)
        have hBWh := hBWg.trans (hlWh.mono (by omega))
        have hnWh := (hlWh.block _ (by omega)).trans hnWg
        have hxWh := hoWh _ _ hxWg (fun e' => hnb (by injection e')) (fun c' fz e' => by injection e' with _ e2; cases e2)
        have hT' : T ++ (⟨(List.replicate (9 - s.length) 48).toArray⟩ : ByteArray).data.toList ++ (⟨s.toArray⟩ : ByteArray).data.toList = partText [] len (pre ++ [⟨(pi, pv), hpip, hpv⟩]) := by
          rw [HTN.out, HPT.out]; simp
        rw [hT'] at hbWh
        gi_wp2
        exact ⟨hKWh, ⟨(hbf.mono hBW.size).trans ((hlWg.mono (by omega)).trans (hlWh.mono (by omega))), hxWh.trans hxW.symm⟩, ⟨hbWh, hnWh, hxWh⟩, hBWh⟩
      · have hpt : pieceText len (pi, pv) = s := by unfold pieceText; rw [if_neg hlt, HSs.out]; rfl
        have HPT := Lib.hid hpt; clear hpt
        gi_wp2_with fail
        refine ⟨trivial, ?_⟩
        refine (CallsIn.inRound l (callsIn_wide.2 hfm)).mono ?_
        rintro e Wf ⟨rfl, hbf⟩
        have hgf := grown_of_below hbf
        have hbF := bld_kept hbW hgf (fun r e => by cases e)
        have hnF := block_kept hnW hgf (fun r e => by cases e)
        have hxF := block_kept hxW hgf (fun r e => by cases e)
        have hBF := hBW.trans (hbf.mono hBW.size)
        have hcF : Wf.cell? ⟨w.heap.size, 1, none⟩ = some (.slice A len c) := by rw [Lib.cell_of_heap hnF]; rfl
        have hKF : KeepsOthers W Wf := ⟨hbf.size, fun k o hk ho => (hbf.block k (lt_of_block' hk)).trans hk⟩
        clear hc1
        gi_wp2_with fail
        refine ⟨trivial, ?_⟩
        refine (CallsIn.inRound l (callsIn_wide.2 (writeString_any (w.heap.size + 1) (w.heap.size + 1) (Lib.byteCells T) ⟨s.toArray⟩ Wf hbF (by simp [Lib.byteCells, ByteArray.size]; omega) (by have := lt_of_block' hxF; have := hBF.size; omega)))).mono ?_
        rintro e Wh ⟨rfl, hbWh, hlWh, hoWh⟩
        rw [byte_app] at hbWh
        obtain ⟨qF, rF, hhF⟩ := bld_heap hbF
        have hKWh := hKF.trans (keepsOthers_of hhF hlWh.size hoWh)
        have hBWh := hBF.trans (hlWh.mono (by omega))
        have hnWh := (hlWh.block _ (by omega)).trans hnF
        have hxWh := hoWh _ _ hxF (fun e' => hnb (by injection e')) (fun c' fz e' => by injection e' with _ e2; cases e2)
        have hT' : T ++ (⟨s.toArray⟩ : ByteArray).data.toList = partText [] len (pre ++ [⟨(pi, pv), hpip, hpv⟩]) := by
          rw [HTN.out, HPT.out]
        rw [hT'] at hbWh
        gi_wp2
        exact ⟨hKWh, ⟨(hbf.mono hBW.size).trans (hlWh.mono (by omega)), hxWh.trans hxW.symm⟩, ⟨hbWh, hnWh, hxWh⟩, hBWh⟩
    case doneF =>
      rintro D ys W hD hys ⟨⟨hbW, hnW, hxW⟩, hBW⟩ hK
      have htext : partText [] len ys = Lib.itoa (if false = true then -(x : Int) else (x : Int)) := by
        have h1 := (bwd_text hdig (by rw [HX.out]; exact pcs_last (by decide) x) len (by rw [HL.out]; exact Nat.le_refl _) hpos).1
        rw [HL.out, Nat.sub_self, List.drop_zero] at h1
        unfold partText
        rw [hys, h1, HX.out, val_pcs (by decide)]
        rw [if_neg (by decide), itoa_nat]; rfl
      rw [htext] at hbW
      gi_wp2_with fail
      refine ⟨trivial, ?_⟩
      refine (callsIn_wide.2 (Tryz.Builder_String_any_k (w.heap.size + 1) (w.heap.size + 1) _ W (bldF hbW) (by have := hBW.size; have := lt_of_block' hxW; omega))).mono ?_
      rintro e We ⟨rfl, hbe, hle, hoe⟩
      have hKe := hoe _ _ hK (fun e' => by injection e' with e2; subst e2; obtain ⟨q, r, hh⟩ := bld_heap hbW; rw [hh] at hK; cases hK) (fun c' fz e' => by cases e')
      gi_wp2
      refine ⟨by simp, .inl ⟨_, _, rfl, run_takeDeferred hKe, ?_⟩⟩
      exact ⟨_, results_tmp rfl _ _ _, rfl, (hBW.trans (hle.mono (by omega))).trans (belowK_b (w := w) (Nat.le_refl _) We D _ _ (by have := hB2.size; omega) hKe rfl rfl)⟩
    case stopF =>
      rintro D c pre W _ _ h _
      exact h.elim
  · gi_wp2_with (first
      | (refine ⟨trivial, ?_⟩; gi_at_call 110; refine (callsIn_wide.2 (writeByte_any (w.heap.size + 1) (w.heap.size + 1) (Lib.byteCells []) 45 _ (by rw [← HW0.out]; exact hbld) (by simp [Lib.byteCells]) (by simp))).mono ?_; rintro e W1 ⟨rfl, hbld1, hbl1, hok1⟩; have hn1 : W1.heap[w.heap.size]? = some (.cells #[.bool true, .slice A len c] 111 (0, 0)) := (hbl1.block _ (by omega)).trans (by rw [← HW0.out]; exact hnum); have hc1 : W1.cell? ⟨w.heap.size, 1, none⟩ = some (.slice A len c) := by rw [Lib.cell_of_heap hn1]; rfl)
      | (refine ⟨trivial, ?_⟩; gi_at_call 111; refine (back_in Fence.wide _ trivial rfl _ _ _ _).mono ?_; rintro e w' ⟨rfl, rfl⟩))
    rw [← HW0.out] at hbl1
    have hbx1 := hbx
    clear hc1 HW0 hbld hnum hok1
    have hB1' : Below w.heap.size w W1 := hbx1.trans (hbl1.mono (by omega))
    have hbld1' : Bld (w.heap.size + 1) (w.heap.size + 1) (Lib.byteCells (partText [45] len [])) W1 := by simpa [partText, vals, Lib.byteCells] using hbld1
    have hIU := (h.below hB1').more (Nat.le_refl w.heap.size)
    have hbox : (W1.alloc (.cells #[.slice A len c] 109)).heap[W1.heap.size]? = some (.cells #[.slice A len c] 109 (0, 0)) := heap_alloc_new W1 _
    have hnb : W1.heap.size ≠ w.heap.size + 1 := by
      obtain ⟨pp, vv, hh⟩ := bld_heap hbld1
      have := lt_of_block' hh
      omega
    obtain ⟨Bs, hBs⟩ : ∃ Bs, W1.heap.size = Bs := ⟨_, rfl⟩
    rw [hBs] at hbox hnb
    rw [hBs]
    have hBsl : Bs < (W1.alloc (.cells #[.slice A len c] 109)).heap.size := by simp; omega
    have hBsw : w.heap.size ≤ Bs := by have := hB1'.size; omega
    have hB2 : Below w.heap.size w (W1.alloc (.cells #[.slice A len c] 109)) := hB1'.alloc hB1'.size _
    have hbld2 : Bld (w.heap.size + 1) (w.heap.size + 1) (Lib.byteCells (partText [45] len [])) (W1.alloc (.cells #[.slice A len c] 109)) := bld_kept hbld1' (World.grownBy_alloc W1 _ none) (fun r e => by cases e)
    have hn2 : (W1.alloc (.cells #[.slice A len c] 109)).heap[w.heap.size]? = some (.cells #[.bool true, .slice A len c] 111 (0, 0)) := (Below.heap_alloc W1 _ _ (lt_of_block' hn1)).trans hn1
    have hIU2 : IsU .u64 (W1.alloc (.cells #[.slice A len c] 109)) w.heap.size A len c xs := h.below hB2
    obtain ⟨W2, hW2⟩ : ∃ W2, W1.alloc (.cells #[.slice A len c] 109) = W2 := ⟨_, rfl⟩
    rw [hW2] at hbox hBsl hB2 hbld2 hn2 hIU2 ⊢
    have hBs2 := Lib.hid hBs; clear hBs hW2
    refine wpIn_rangeFunc_ownF rfl (by decide) (gf := 129) (lb := #[.pointer (some ⟨Bs, 0, none⟩)]) rfl trivial (enters_of Tryz.func129 (by kernel_rfl) rfl)
      (back_stops Fence.wide _ trivial rfl (by decide) Bs w.heap.size len c A xs (by omega) hdig W2 hbox hB2.size hIU2)
      (fun h1 h2 => ⟨h1.1.trans h2.1, h2.2.trans h1.2⟩) (fun W l o o' hl ho hc hw => ⟨belowK_b (w := W2) hB2.size W l o o' hl ho hc hw, World.putObj_heap_other (by omega)⟩) (Below.refl _ _) (fun _ => rfl)
      (fun pre W => (Bld (w.heap.size + 1) (w.heap.size + 1) (Lib.byteCells (partText [45] len pre)) W ∧ W.heap[w.heap.size]? = some (.cells #[.bool true, .slice A len c] 111 (0, 0)) ∧ W.heap[Bs]? = some (.cells #[.slice A len c] 109 (0, 0))) ∧ Below w.heap.size w W)
      (fun _ _ _ => False)
      (OwnFrom.and (Own.from (fun s A' B' row hs hg hr => ⟨bld_kept hs.1 hg hr, block_kept hs.2.1 hg hr, block_kept hs.2.2 hg hr⟩) _) (ownFrom_below (Nat.le_refl _) hB2.size))
      (fun _ _ _ _ _ hs _ _ => hs)
      ⟨⟨hbld2, hn2, hbox⟩, hB2⟩
      (fun y => { tmps := #[.agg #[.bool true, .slice A len c], .pointer (some ⟨w.heap.size, 0, none⟩), .string ⟨#[]⟩, .pointer (some ⟨w.heap.size + 1, 0, none⟩), .int .i64 (y.1.1 : Int), .int .u64 (y.1.2 : Int), undef, .pointer (some ⟨w.heap.size, 1, none⟩), .slice A len c, .int .i64 (len : Int), .bool false, .pointer (some ⟨w.heap.size, 0, none⟩), .bool true, .nilIface, .pointer (some ⟨w.heap.size, 1, none⟩), .slice A len c, .func (.func 129) #[] #[.pointer (some ⟨Bs, 0, none⟩)], .int .i64 (y.1.1 : Int), .int .u64 (y.1.2 : Int), undef, undef, undef, undef, undef, undef, undef, undef, undef, undef, undef, undef, undef, undef, undef], defers := [] }) ?assignT ?bodyT ?doneT ?stopT
    case assignT =>
      intro l y W K hK
      simp only [encB]
      gi_wp2
      exact hK
    case bodyT =>
      rintro l pre y W ⟨⟨hbW, hnW, hxW⟩, hBW⟩ hpre
      have hc1 : W.cell? ⟨w.heap.size, 1, none⟩ = some (.slice A len c) := by rw [Lib.cell_of_heap hnW]; rfl
      have hWW : Wd W := hW.below hBW
      have htl := partText_len [45] len pre
      have htn := partText_snoc [45] len pre y
      obtain ⟨⟨pi, pv⟩, hpip, hpv⟩ := y
      have h9 := dec_le9 hpv
      have hs9 := nines_from _ h9
      simp only at htn
      have HTN := Lib.hid htn; clear htn
      have HS9 := Lib.hid hs9; clear hs9
      obtain ⟨T, hT⟩ : ∃ T, partText [45] len pre = T := ⟨_, rfl⟩
      rw [hT] at hbW htl HTN
      clear hT
      obtain ⟨s, hs⟩ : ∃ s, Lib.decDigits pv = s := ⟨_, rfl⟩
      have hfm := formatUint_any pv (by omega) W hWW
      rw [hs] at h9 HS9 hfm
      have HSs := Lib.hid hs; clear hs
      have hts : T.length ≤ 39000000000 := by simp at htl; omega
      by_cases hlt : pi + 1 < len
      · have hpt : pieceText len (pi, pv) = List.replicate (9 - s.length) 48 ++ s := by unfold pieceText; rw [if_pos hlt, HSs.out]
        have HPT := Lib.hid hpt; clear hpt
        gi_wp2_with fail
        refine ⟨trivial, ?_⟩
        refine (CallsIn.inRound l (callsIn_wide.2 hfm)).mono ?_
        rintro e Wf ⟨rfl, hbf⟩
        have hgf := grown_of_below hbf
        have hbF := bld_kept hbW hgf (fun r e => by cases e)
        have hnF := block_kept hnW hgf (fun r e => by cases e)
        have hxF := block_kept hxW hgf (fun r e => by cases e)
        have hBF := hBW.trans (hbf.mono hBW.size)
        have hcF : Wf.cell? ⟨w.heap.size, 1, none⟩ = some (.slice A len c) := by rw [Lib.cell_of_heap hnF]; rfl
        have hKF : KeepsOthers W Wf := ⟨hbf.size, fun k o hk ho => (hbf.block k (lt_of_block' hk)).trans hk⟩
        clear hc1
        gi_wp2_with fail
        rw [HS9.out]
        refine ⟨trivial, ?_⟩
        refine (CallsIn.inRound l (callsIn_wide.2 (writeString_any (w.heap.size + 1) (w.heap.size + 1) (Lib.byteCells T) ⟨(List.replicate (9 - s.length) 48).toArray⟩ Wf hbF (by simp [Lib.byteCells, ByteArray.size]; omega) (by have := lt_of_block' hxF; have := hBF.size; omega)))).mono ?_
        rintro e Wg ⟨rfl, hbWg, hlWg, hoWg⟩
        rw [byte_app] at hbWg
        obtain ⟨qF, rF, hhF⟩ := bld_heap hbF
        have hKWg := hKF.trans (keepsOthers_of hhF hlWg.size hoWg)
        have hBWg := hBF.trans (hlWg.mono (by omega))
        have hnWg := (hlWg.block _ (by omega)).trans hnF
        have hxWg := hoWg _ _ hxF (fun e' => hnb (by injection e')) (fun c' fz e' => by injection e' with _ e2; cases e2)
        gi_wp2_with fail
        refine ⟨trivial, ?_⟩
        refine (CallsIn.inRound l (callsIn_wide.2 (writeString_any (w.heap.size + 1) (w.heap.size + 1) (Lib.byteCells (T ++ (⟨(List.replicate (9 - s.length) 48).toArray⟩ : ByteArray).data.toList)) ⟨s.toArray⟩ Wg hbWg (by simp [Lib.byteCells, ByteArray.size]; omega) (by have := lt_of_block' hxWg; have := hBWg.size; omega)))).mono ?_
        rintro e Wh ⟨rfl, hbWh, hlWh, hoWh⟩
        rw [byte_app] at hbWh
        obtain ⟨qWg, rWg, hhWg⟩ := bld_heap hbWg
        have hKWh := hKWg.trans (keepsOthers_of hhWg hlWh.size hoWh)
        have hBWh := hBWg.trans (hlWh.mono (by omega))
        have hnWh := (hlWh.block _ (by omega)).trans hnWg
        have hxWh := hoWh _ _ hxWg (fun e' => hnb (by injection e')) (fun c' fz e' => by injection e' with _ e2; cases e2)
        have hT' : T ++ (⟨(List.replicate (9 - s.length) 48).toArray⟩ : ByteArray).data.toList ++ (⟨s.toArray⟩ : ByteArray).data.toList = partText [45] len (pre ++ [⟨(pi, pv), hpip, hpv⟩]) := by
          rw [HTN.out, HPT.out]; simp
        rw [hT'] at hbWh
        gi_wp2
        exact ⟨hKWh, ⟨(hbf.mono hBW.size).trans ((hlWg.mono (by omega)).trans (hlWh.mono (by omega))), hxWh.trans hxW.symm⟩, ⟨hbWh, hnWh, hxWh⟩, hBWh⟩
      · have hpt : pieceText len (pi, pv) = s := by unfold pieceText; rw [if_neg hlt, HSs.out]; rfl
        have HPT := Lib.hid hpt; clear hpt
        gi_wp2_with fail
        refine ⟨trivial, ?_⟩
        refine (CallsIn.inRound l (callsIn_wide.2 hfm)).mono ?_
        rintro e Wf ⟨rfl, hbf⟩
        have hgf := grown_of_below hbf
        have hbF := bld_kept hbW hgf (fun r e => by cases e)
        have hnF := block_kept hnW hgf (fun r e => by cases e)
        have hxF := block_kept hxW hgf (fun r e => by cases e)
        have hBF := hBW.trans (hbf.mono hBW.size)
        have hcF : Wf.cell? ⟨w.heap.size, 1, none⟩ = some (.slice A len c) := by rw [Lib.cell_of_heap hnF]; rfl
        have hKF : KeepsOthers W Wf := ⟨hbf.size, fun k o hk ho => (hbf.block k (lt_of_block' hk)).trans hk⟩
        clear hc1
        gi_wp2_with fail
        refine ⟨trivial, ?_⟩
        refine (CallsIn.inRound l (callsIn_wide.2 (writeString_any (w.heap.size + 1) (w.heap.size + 1) (Lib.byteCells T) ⟨s.toArray⟩ Wf hbF (by simp [Lib.byteCells, ByteArray.size]; omega) (by have := lt_of_block' hxF; have := hBF.size; omega)))).mono ?_
        rintro e Wh ⟨rfl, hbWh, hlWh, hoWh⟩
        rw [byte_app] at hbWh
        obtain ⟨qF, rF, hhF⟩ := bld_heap hbF
        have hKWh := hKF.trans (keepsOthers_of hhF hlWh.size hoWh)
        have hBWh := hBF.trans (hlWh.mono (by omega))
        have hnWh := (hlWh.block _ (by omega)).trans hnF
        have hxWh := hoWh _ _ hxF (fun e' => hnb (by injection e')) (fun c' fz e' => by injection e' with _ e2; cases e2)
        have hT' : T ++ (⟨s.toArray⟩ : ByteArray).data.toList = partText [45] len (pre ++ [⟨(pi, pv), hpip, hpv⟩]) := by
          rw [HTN.out, HPT.out]
        rw [hT'] at hbWh
        gi_wp2
        exact ⟨hKWh, ⟨(hbf.mono hBW.size).trans (hlWh.mono (by omega)), hxWh.trans hxW.symm⟩, ⟨hbWh, hnWh, hxWh⟩, hBWh⟩
    case doneT =>
      rintro D ys W hD hys ⟨⟨hbW, hnW, hxW⟩, hBW⟩ hK
      have htext : partText [45] len ys = Lib.itoa (if true = true then -(x : Int) else (x : Int)) := by
        have h1 := (bwd_text hdig (by rw [HX.out]; exact pcs_last (by decide) x) len (by rw [HL.out]; exact Nat.le_refl _) hpos).1
        rw [HL.out, Nat.sub_self, List.drop_zero] at h1
        unfold partText
        rw [hys, h1, HX.out, val_pcs (by decide)]
        rw [if_pos rfl, itoa_negNat hx]; rfl
      rw [htext] at hbW
      gi_wp2_with fail
      refine ⟨trivial, ?_⟩
      refine (callsIn_wide.2 (Tryz.Builder_String_any_k (w.heap.size + 1) (w.heap.size + 1) _ W (bldF hbW) (by have := hBW.size; have := lt_of_block' hxW; omega))).mono ?_
      rintro e We ⟨rfl, hbe, hle, hoe⟩
      have hKe := hoe _ _ hK (fun e' => by injection e' with e2; subst e2; obtain ⟨q, r, hh⟩ := bld_heap hbW; rw [hh] at hK; cases hK) (fun c' fz e' => by cases e')
      gi_wp2
      refine ⟨by simp, .inl ⟨_, _, rfl, run_takeDeferred hKe, ?_⟩⟩
      exact ⟨_, results_tmp rfl _ _ _, rfl, (hBW.trans (hle.mono (by omega))).trans (belowK_b (w := w) (Nat.le_refl _) We D _ _ (by have := hB2.size; omega) hKe rfl rfl)⟩
    case stopT =>
      rintro D c pre W _ _ h _
      exact h.elim

theorem bytes_eq {a b : ByteArray} (h : a.data.toList = b.data.toList) : a = b := by
  cases a; cases b; congr 1; exact Array.toList_inj.1 h

theorem txt_zero : txt 0 = ⟨#[48]⟩ := by
  apply bytes_eq
  rw [txt_list, itoa_pos' (by decide), show (0 : Int).natAbs = 0 from rfl, dec_small (by decide)]; rfl

theorem close_zero (m : Bool) (A : Option Addr) (len c : Nat) (w : World) (h : IsU .u64 w w.heap.size A len c (pcs 1000000000 0)) :
    Calls Tryz.prog 69 #[.agg #[.bool m, .slice A len c]] w fun e w' => e = .returned (.string (txt 0)) ∧ Below w.heap.size w w' := by
  have hl := h.len
  rw [pcs_zero] at hl
  obtain rfl : len = 0 := hl.symm
  have hb1 : Below w.heap.size w (w.alloc (.cells #[.bool m, .slice A 0 c] 111)) := (Below.refl _ _).alloc (Nat.le_refl _) _
  go_enter Tryz.func69, Tryz.ntmps69
  go_wp2
  go_ret
  exact ⟨by rw [txt_zero]; rfl, hb1⟩

/-- a number's text. -/
theorem close_any (m : Bool) (A : Option Addr) (len c : Nat) (x : Nat) (w : World) (hW : Wd w) (h : IsU .u64 w w.heap.size A len c (pcs 1000000000 x)) (hm : len ≤ 4294967296) :
    Calls Tryz.prog 69 #[.agg #[.bool m, .slice A len c]] w fun e w' => e = .returned (.string (txt (if m then -(x : Int) else (x : Int)))) ∧ Below w.heap.size w w' := by
  by_cases hx : x = 0
  · subst hx
    have := close_zero m A len c w h
    simpa using this
  · exact close_pos m A len c x hx w hW h hm

end Go.Proofs.YtgfgpepdkffhbaaGreatDoor.Kl
