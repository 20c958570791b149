/- surd: root, alike, over, From, the closure of result. surd: result, with slices.ContainsFunc and IndexFunc of its closure. surd.Of, in its six ways. klipperef03.Of, in its six ways. rows of terms of the call's own; klippelaw03.plain. klipperef03.Same. -/
import Derived.Test.YtgfgpepdkffhbaaGreatDoorRefC
namespace Go.Proofs.YtgfgpepdkffhbaaGreatDoor.Kl
open Go.RowKit Go.Shelf
set_option linter.unusedVariables false
set_option linter.unusedSimpArgs false

theorem sroot_any (n : Nat) (hn : DL (n : Int) 400000) (w : World) (hW : Wd w) :
    Calls Tryz.prog 31 #[.string (txt (n : Int))] w fun e w' => e = .returned (.tuple #[.string (txt ((isqrt n : Nat) : Int)), .bool (decide (isqrt n * isqrt n = n))]) ∧ Below w.heap.size w w' := by
  have hr := root_any n (by have := hn.itoa; omega) w hW
  have hs : DL ((isqrt n : Nat) : Int) 400000 := hn.le (isqrt_le_self n) (by decide)
  have hsl := hs.itoa
  have hm := fun w hW => mul_any ((isqrt n : Nat) : Int) ((isqrt n : Nat) : Int) w hW (by omega) (by omega)
  rw [← Int.natCast_mul] at hm
  have hb := txt_beq ((isqrt n * isqrt n : Nat) : Int) (n : Int)
  have hd : decide (((isqrt n * isqrt n : Nat) : Int) = (n : Int)) = decide (isqrt n * isqrt n = n) := by
    by_cases h : isqrt n * isqrt n = n
    · rw [h]; simp
    · rw [decide_eq_false h, decide_eq_false (by omega)]
  rw [hd] at hb
  obtain ⟨bb, hbb⟩ : ∃ bb, decide (isqrt n * isqrt n = n) = bb := ⟨_, rfl⟩
  rw [hbb] at hb ⊢
  obtain ⟨S, hS⟩ : ∃ S, txt ((isqrt n * isqrt n : Nat) : Int) = S := ⟨_, rfl⟩
  rw [hS] at hm hb
  clear hd hbb hS hsl
  go_enter Tryz.func31, Tryz.ntmps31
  go_wp2_with (first
    | (with_reducible refine Calls.mono hr ?_; rintro e w1 ⟨rfl, hb1⟩; have hB := hm w1 (hW.below hb1))
    | (with_reducible refine Calls.mono hB ?_; rintro e w2 ⟨rfl, hb2⟩))
  go_ret2
  exact ⟨rfl, hb1.trans (hb2.mono hb1.size)⟩

theorem salike_any (a b : Nat) (ha : DL (a : Int) 100000) (hb : DL (b : Int) 100000) (w : World) (hW : Wd w) :
    Calls Tryz.prog 85 #[.string (txt (a : Int)), .string (txt (b : Int))] w fun e w' => e = .returned (.tuple #[.string (txt ((isqrt (a * b) : Nat) : Int)), .bool (decide (isqrt (a * b) * isqrt (a * b) = a * b))]) ∧ Below w.heap.size w w' := by
  have he := txt_beq (a : Int) (b : Int)
  by_cases hab : a = b
  · subst hab
    rw [isqrt_sq]
    rw [decide_eq_true rfl] at he
    rw [show decide (a * a = a * a) = true by simp]
    go_enter Tryz.func85, Tryz.ntmps85
    go_wp2
    go_ret2
    exact ⟨rfl, Below.refl _ _⟩
  · rw [decide_eq_false (by omega)] at he
    have hal := ha.itoa
    have hbl := hb.itoa
    have hm := mul_any (a : Int) (b : Int) w hW (by omega) (by omega)
    have hd : DL ((a * b : Nat) : Int) 400000 := by rw [Int.natCast_mul]; exact (ha.mul hb (by decide)).mono (by decide)
    have hs := fun w hW => sroot_any (a * b) hd w hW
    rw [← Int.natCast_mul] at hm
    obtain ⟨c, hc⟩ : ∃ c, a * b = c := ⟨_, rfl⟩
    rw [hc] at hm hs ⊢
    go_enter Tryz.func85, Tryz.ntmps85
    go_wp2_with (first
      | (with_reducible refine Calls.mono hm ?_; rintro e w1 ⟨rfl, hb1⟩; have hB := hs w1 (hW.below hb1))
      | (with_reducible refine Calls.mono hB ?_; rintro e w2 ⟨rfl, hb2⟩))
    go_ret2
    exact ⟨rfl, hb1.trans (hb2.mono hb1.size)⟩

theorem over_any (n d : Int) (hd : 0 < d) (hn : DL n 1000000) (hdl : DL d 1000000) (w : World) (hW : Wd w) :
    Calls Tryz.prog 32 #[.string (txt n), .string (txt d)] w fun e w' => e = .returned (.string (rtxt (Rat.divInt n d))) ∧ Below w.heap.size w w' := by
  have hc := new_any n d hd (by have := hn.itoa; omega) (by have := hdl.itoa; omega) w hW
  go_enter Tryz.func32, Tryz.ntmps32
  go_wp2_with (with_reducible refine Calls.mono hc ?_; rintro e w1 ⟨rfl, hb1⟩)
  go_ret
  exact ⟨rfl, hb1⟩

/-- terms as cells, and a slice of terms. -/
def tsv (ts : List (ByteArray × ByteArray)) : List Value := ts.flatMap fun t => [Value.string t.1, Value.string t.2]
theorem tsv_length (ts : List (ByteArray × ByteArray)) : (tsv ts).length = ts.length * 2 := by
  induction ts with
  | nil => rfl
  | cons t ts ih => simp [tsv] at ih ⊢; omega
def IsT (w : World) (B : Nat) (A : Option Addr) (n c : Nat) (ts : List (ByteArray × ByteArray)) : Prop := ts.length = n ∧ n ≤ c ∧ Reads w B 2 A n (tsv ts)
section
variable {w w' : World} {B B' n c : Nat} {A : Option Addr} {ts : List (ByteArray × ByteArray)}
theorem IsT.len (h : IsT w B A n c ts) : ts.length = n := h.1
theorem IsT.below (h : IsT w B A n c ts) (hb : Below B w w') : IsT w' B A n c ts := ⟨h.1, h.2.1, h.2.2.below hb⟩
theorem IsT.more (h : IsT w B A n c ts) (hB : B ≤ B') : IsT w B' A n c ts := ⟨h.1, h.2.1, h.2.2.more hB⟩
theorem IsT.to (h : IsT w B A n c ts) (hb : Below B w w') (hB : B ≤ w.heap.size) : IsT w' w'.heap.size A n c ts := (h.below hb).more (by have := hb.size; omega)
theorem IsT.nil (w : World) (B : Nat) (A : Option Addr) (c : Nat) : IsT w B A 0 c [] := ⟨rfl, Nat.zero_le _, Reads.none_⟩
theorem tsv_get (ts : List (ByteArray × ByteArray)) (j : Nat) (t : ByteArray × ByteArray) (h : ts[j]? = some t) : (tsv ts)[j * 2]? = some (.string t.1) ∧ (tsv ts)[j * 2 + 1]? = some (.string t.2) := by
  induction ts generalizing j with
  | nil => simp at h
  | cons u ts ih =>
    cases j with
    | zero => simp at h; subst h; simp [tsv]
    | succ j =>
      simp at h
      obtain ⟨h1, h2⟩ := ih j h
      have e : tsv (u :: ts) = [Value.string u.1, Value.string u.2] ++ tsv ts := by simp [tsv]
      rw [e]
      constructor
      · rw [List.getElem?_append_right (by simp; omega)]
        simpa [show (j + 1) * 2 - 2 = j * 2 by omega] using h1
      · rw [List.getElem?_append_right (by simp; omega)]
        simpa [show (j + 1) * 2 + 1 - 2 = j * 2 + 1 by omega] using h2
theorem IsT.at_ (h : IsT w B A n c ts) {j : Nat} (hj : j < n) : ∃ ad t, A = some ad ∧ ad.block < B ∧ ts[j]? = some t ∧ w.cell? (ad.add (j * 2)) = some (.string t.1) ∧ w.cell? (ad.add (j * 2 + 1)) = some (.string t.2) := by
  obtain ⟨ad, e, hb, hc⟩ := h.2.2.2 (by omega)
  have hl : j < ts.length := by rw [h.1]; exact hj
  obtain ⟨h1, h2⟩ := tsv_get ts j _ (List.getElem?_eq_getElem hl)
  exact ⟨ad, _, e, hb, List.getElem?_eq_getElem hl, hc _ _ h1, hc _ _ h2⟩
theorem IsT.of_block {g : Nat} {T : TypeId} {fz : Nat × Nat} (hg : w.heap[g]? = some (.cells (tsv ts).toArray T fz)) (hl : ts.length = n) : IsT w w.heap.size (some ⟨g, 0, none⟩) n n ts := by
  refine ⟨hl, Nat.le_refl _, by rw [tsv_length, hl], fun _ => ⟨_, rfl, (Array.getElem?_eq_some_iff.1 hg).1, fun j u hu => ?_⟩⟩
  have e : (⟨g, 0, none⟩ : Addr).add j = ⟨g, j, none⟩ := by unfold Addr.add; split <;> simp_all
  rw [e, Lib.cell_of_heap hg]
  simpa using hu
end

theorem checkR_right (q : Rat) (hq : RS q) (w : World) (hW : Wd w) :
    Calls Tryz.prog 27 #[.string (rtxt q)] w fun e w' => e = .returned (.int .i64 0) ∧ Below w.heap.size w w' := by
  have hl : (rtl q).length ≤ 500 := by
    have := rtl_len q
    have h3 := dig_len hq.1
    have h4 : (Lib.itoa (q.den : Int)).length ≤ 200 := by rw [itoa_nat]; exact hq.2
    omega
  refine (checkR_any (rtxt q) (by rw [rtxt_size]; omega) w hW).mono ?_
  rintro e w' ⟨⟨c, rfl, h1, h2⟩, hb⟩
  have hc : c = 0 := h1 ⟨q, rtxt_list q, hq.1, hq.2⟩
  exact ⟨by rw [hc], hb⟩
theorem checkR_wrong (s : ByteArray) (hs : s.size ≤ 4294967280) (hr : ¬ RightR s.data.toList) (w : World) (hW : Wd w) :
    Calls Tryz.prog 27 #[.string s] w fun e w' => e = .returned (.int .i64 2) ∧ Below w.heap.size w w' := by
  refine (checkR_any s hs w hW).mono ?_
  rintro e w' ⟨⟨c, rfl, h1, h2⟩, hb⟩
  exact ⟨by rw [h2 hr], hb⟩

/-- From: of other bytes, of 0, of another number. -/
theorem from_wrong (s : ByteArray) (hs : s.size ≤ 4294967280) (hr : ¬ RightR s.data.toList) (w : World) (hW : Wd w) :
    Calls Tryz.prog 10 #[.string s] w fun e w' => e = .returned (.tuple #[.slice none 0 0, .int .i64 2]) ∧ Below w.heap.size w w' := by
  have hc := checkR_wrong s hs hr w hW
  go_enter Tryz.func10, Tryz.ntmps10
  go_wp2_with (with_reducible refine Calls.mono hc ?_; rintro e w1 ⟨rfl, hb1⟩)
  go_ret2
  exact ⟨rfl, hb1⟩
theorem from_zero (w : World) (hW : Wd w) :
    Calls Tryz.prog 10 #[.string (rtxt 0)] w fun e w' => e = .returned (.tuple #[.slice none 0 0, .int .i64 0]) ∧ Below w.heap.size w w' := by
  have hz := rtxt_is_zero 0
  rw [show decide ((0 : Rat).num = 0) = true from rfl] at hz
  have hc := checkR_right 0 ⟨by show (Lib.decDigits 0).length ≤ 200; rw [dec_small (by decide)]; decide, by show (Lib.decDigits 1).length ≤ 200; rw [dec_small (by decide)]; decide⟩ w hW
  go_enter Tryz.func10, Tryz.ntmps10
  go_wp2_with (with_reducible refine Calls.mono hc ?_; rintro e w1 ⟨rfl, hb1⟩)
  go_ret2
  exact ⟨rfl, hb1⟩
theorem from_num (q : Rat) (hq : RS q) (h0 : q.num ≠ 0) (w : World) (hW : Wd w) :
    Calls Tryz.prog 10 #[.string (rtxt q)] w fun e w' => (∃ A, e = .returned (.tuple #[.slice A 1 1, .int .i64 0]) ∧ IsT w' w'.heap.size A 1 1 [(rtxt q, txt 1)]) ∧ Below w.heap.size w w' := by
  have hz := rtxt_is_zero q
  rw [decide_eq_false h0] at hz
  have hc := checkR_right q hq w hW
  rw [← txt_one']
  go_enter Tryz.func10, Tryz.ntmps10
  go_wp2_with (with_reducible refine Calls.mono hc ?_; rintro e w1 ⟨rfl, hb1⟩)
  go_ret2
  exact ⟨⟨_, rfl, IsT.of_block (ts := [(rtxt q, ⟨#[49]⟩)]) (heap_alloc_new w1 _) rfl⟩, hb1.alloc hb1.size _⟩

/-- the closure of result: a term whose numbers are not right. -/
theorem result1_yes (q : Rat) (x : Int) (hq : RS q) (hx : DL x 200) (w : World) (hW : Wd w) :
    Calls Tryz.prog 73 #[.agg #[.string (rtxt q), .string (txt x)]] w fun e w' => e = .returned (.bool false) ∧ Below w.heap.size w w' := by
  obtain ⟨O, hO⟩ : ∃ O, Obj.cells #[.string (rtxt q), .string (txt x)] 45 = O := ⟨_, rfl⟩
  have hal : Below w.heap.size w (w.alloc O) := (Below.refl _ _).alloc (Nat.le_refl _) _
  have k0 := heap_alloc_new w O
  have hW1 := hW.below hal
  subst hO
  obtain ⟨c0, c1⟩ := cell2 k0
  have hc := checkR_right q hq _ hW1
  have hl0 := lt_of_block' k0
  have hci := fun w => checkI_right x hx w
  go_enter Tryz.func73, Tryz.ntmps73
  go_wp2_with fail
  with_reducible refine Calls.mono hc ?_
  rintro e w2 ⟨rfl, hb2⟩
  have k2 := (hb2.block _ hl0).trans k0
  obtain ⟨c2, c3⟩ := cell2 k2
  have hB2 := hal.trans (hb2.mono hal.size)
  have hcj := hci w2
  go_wp2_with (with_reducible refine Calls.mono hcj ?_; rintro e w3 ⟨rfl, hb3⟩)
  go_ret
  exact ⟨rfl, hB2.trans (hb3.mono hB2.size)⟩
theorem result1_fac (f r : ByteArray) (hf : f.size ≤ 4294967280) (hn : ¬ RightR f.data.toList) (w : World) (hW : Wd w) :
    Calls Tryz.prog 73 #[.agg #[.string f, .string r]] w fun e w' => e = .returned (.bool true) ∧ Below w.heap.size w w' := by
  obtain ⟨O, hO⟩ : ∃ O, Obj.cells #[.string f, .string r] 45 = O := ⟨_, rfl⟩
  have hal : Below w.heap.size w (w.alloc O) := (Below.refl _ _).alloc (Nat.le_refl _) _
  have k0 := heap_alloc_new w O
  have hW1 := hW.below hal
  subst hO
  obtain ⟨c0, c1⟩ := cell2 k0
  have hc := checkR_wrong f hf hn _ hW1
  go_enter Tryz.func73, Tryz.ntmps73
  go_wp2_with fail
  with_reducible refine Calls.mono hc ?_
  rintro e w2 ⟨rfl, hb2⟩
  go_wp2_with fail
  go_ret
  exact ⟨rfl, hal.trans (hb2.mono hal.size)⟩
theorem result1_rad (q : Rat) (r : ByteArray) (hq : RS q) (hr : r.size ≤ 4294967280) (hn : ¬ RightI r.data.toList) (w : World) (hW : Wd w) :
    Calls Tryz.prog 73 #[.agg #[.string (rtxt q), .string r]] w fun e w' => e = .returned (.bool true) ∧ Below w.heap.size w w' := by
  obtain ⟨O, hO⟩ : ∃ O, Obj.cells #[.string (rtxt q), .string r] 45 = O := ⟨_, rfl⟩
  have hal : Below w.heap.size w (w.alloc O) := (Below.refl _ _).alloc (Nat.le_refl _) _
  have k0 := heap_alloc_new w O
  have hW1 := hW.below hal
  subst hO
  obtain ⟨c0, c1⟩ := cell2 k0
  have hc := checkR_right q hq _ hW1
  have hl0 := lt_of_block' k0
  have hci := fun w => checkI_wrong r (by omega) hn w
  go_enter Tryz.func73, Tryz.ntmps73
  go_wp2_with fail
  with_reducible refine Calls.mono hc ?_
  rintro e w2 ⟨rfl, hb2⟩
  have k2 := (hb2.block _ hl0).trans k0
  obtain ⟨c2, c3⟩ := cell2 k2
  have hB2 := hal.trans (hb2.mono hal.size)
  have hcj := hci w2
  go_wp2_with (with_reducible refine Calls.mono hcj ?_; rintro e w3 ⟨rfl, hb3⟩)
  go_ret
  exact ⟨rfl, hB2.trans (hb3.mono hB2.size)⟩
end Go.Proofs.YtgfgpepdkffhbaaGreatDoor.Kl
namespace Go.Proofs.YtgfgpepdkffhbaaGreatDoor.Kl
open Go.RowKit Go.Shelf
set_option linter.unusedVariables false
set_option linter.unusedSimpArgs false

/-- a term whose numbers are right. -/
def GoodT (t : ByteArray × ByteArray) : Prop := RightR t.1.data.toList ∧ RightI t.2.data.toList
def ShortT (t : ByteArray × ByteArray) : Prop := t.1.size ≤ 4294967280 ∧ t.2.size ≤ 4294967280

theorem result1_any (t : ByteArray × ByteArray) (ht : ShortT t) (w : World) (hW : Wd w) :
    Calls Tryz.prog 73 #[.agg #[.string t.1, .string t.2]] w fun e w' => BoolIs e (¬ GoodT t) ∧ Below w.heap.size w w' := by
  obtain ⟨f, r⟩ := t
  by_cases h1 : RightR f.data.toList
  · obtain ⟨q, e, l1, l2⟩ := h1
    have hf : f = rtxt q := by apply bytes_ext; rw [e, rtxt_list]
    by_cases h2 : RightI r.data.toList
    · obtain ⟨x, e2, l3⟩ := h2
      have hr : r = txt x := by apply bytes_ext; rw [e2, txt_list]
      subst hf hr
      refine (result1_yes q x ⟨l1, l2⟩ l3 w hW).mono ?_
      rintro e w' ⟨rfl, hb⟩
      exact ⟨BoolIs.f (fun h => h ⟨⟨q, rtxt_list q, l1, l2⟩, ⟨x, txt_list x, l3⟩⟩), hb⟩
    · subst hf
      refine (result1_rad q r ⟨l1, l2⟩ ht.2 h2 w hW).mono ?_
      rintro e w' ⟨rfl, hb⟩
      exact ⟨BoolIs.t (fun h => h2 h.2), hb⟩
  · refine (result1_fac f r ht.1 h1 w hW).mono ?_
    rintro e w' ⟨rfl, hb⟩
    exact ⟨BoolIs.t (fun h => h1 h.1), hb⟩

theorem add_next (ad : Addr) (m : Nat) : ad.add (m + 1) = ⟨(ad.add m).block, (ad.add m).off + 1, none⟩ := by
  unfold Addr.add
  by_cases h : m = 0
  · subst h; simp
  · simp [h]; omega

set_option maxRecDepth 100000 in
theorem indexR_any (A : Option Addr) (n c : Nat) (ts : List (ByteArray × ByteArray)) (hts : ∀ t ∈ ts, ShortT t) (w : World) (hW : Wd w) (h : IsT w w.heap.size A n c ts) (hm : n ≤ 1000000) :
    Calls Tryz.prog 113 #[.slice A n c, .func (.func 73) #[] #[]] w fun e w' => (∃ z : Int, e = .returned (.int .i64 z) ∧ ((∃ t ∈ ts, ¬ GoodT t) → 0 ≤ z) ∧ ((¬ ∃ t ∈ ts, ¬ GoodT t) → z = -1)) ∧ Below w.heap.size w w' := by
  have HT := Lib.hid hts; clear hts
  have hlen := h.len
  have HL := Lib.hid hlen; clear hlen
  obtain ⟨E, hE⟩ : ∃ E : Prop, (∃ t ∈ ts, ¬ GoodT t) = E := ⟨_, rfl⟩
  rw [hE]
  have HE := Lib.hid hE; clear hE
  go_enter Tryz.func113, Tryz.ntmps113
  go_wp2_with fail
  go_loopw [8] (fun v wr => ∃ k : Nat, v = .int .i64 (k : Int) ∧ k ≤ n ∧ RowKit.Hid (∀ j t, j < k → ts[j]? = some t → GoodT t) ∧ Below w.heap.size w wr) (fun v _ => n - (intOf v).toNat)
  case atStart => exact ⟨0, rfl, Nat.zero_le _, Lib.hid (fun j t hj => absurd hj (Nat.not_lt_zero _)), Below.refl _ _⟩
  case round =>
    obtain ⟨k, rfl, hk, hall, hbel⟩ := hrel
    by_cases hkn : k < n
    · obtain ⟨ad, t, rfl, hb, htk, hc1, hc2⟩ := (h.below hbel).at_ hkn
      have hcl := result1_any t (HT.out t (List.mem_of_getElem? htk)) wr (hW.below hbel)
      have HTK := Lib.hid htk; clear htk
      rw [add_next] at hc2
      go_wp2_with fail
      with_reducible refine Calls.mono hcl ?_
      rintro e w2 ⟨hbo, hb2⟩
      have hB2 := hbel.trans (hb2.mono hbel.size)
      by_cases hg : GoodT t
      · have hbt := hbo.no (fun h => h hg)
        subst hbt
        have hnx : ∀ j t, j < k + 1 → ts[j]? = some t → GoodT t := fun j u hj hu => by
          rcases Nat.lt_or_ge j k with h | h
          · exact hall.out j u h hu
          · have : j = k := by omega
            subst this
            rw [HTK.out] at hu; cases hu; exact hg
        have HNX := Lib.hid hnx; clear hnx hg hbo
        go_wp2_with fail
        exact ⟨⟨k + 1, by congr 1, hkn, HNX, hB2⟩, by simp [intOf]; omega⟩
      · have hbt := hbo.yes hg
        subst hbt
        have hEE : E := by rw [← HE.out]; exact ⟨t, List.mem_of_getElem? HTK.out, hg⟩
        have HEE := Lib.hid hEE; clear hEE hg hbo
        go_wp2_with fail
        go_ret
        exact ⟨⟨(k : Int), rfl, fun _ => by omega, fun h => absurd HEE.out h⟩, hB2⟩
    · have hno : ¬ E := by
        rw [← HE.out]
        rintro ⟨t, ht, hg⟩
        obtain ⟨j, hj, e⟩ := List.getElem_of_mem ht
        exact hg (hall.out j t (by have := HL.out; omega) (by rw [List.getElem?_eq_getElem hj, e]))
      have HNO := Lib.hid hno; clear hno
      go_wp2_with fail
      go_ret
      exact ⟨⟨-1, rfl, fun h => absurd h HNO.out, fun _ => rfl⟩, hbel⟩

theorem containsR_any (A : Option Addr) (n c : Nat) (ts : List (ByteArray × ByteArray)) (hts : ∀ t ∈ ts, ShortT t) (w : World) (hW : Wd w) (h : IsT w w.heap.size A n c ts) (hm : n ≤ 1000000) :
    Calls Tryz.prog 72 #[.slice A n c, .func (.func 73) #[] #[]] w fun e w' => BoolIs e (∃ t ∈ ts, ¬ GoodT t) ∧ Below w.heap.size w w' := by
  have hi := indexR_any A n c ts hts w hW h hm
  obtain ⟨E, hE⟩ : ∃ E : Prop, (∃ t ∈ ts, ¬ GoodT t) = E := ⟨_, rfl⟩
  rw [hE] at hi ⊢
  clear hE
  by_cases hEE : E
  · have HE := Lib.hid hEE; clear hEE
    go_enter Tryz.func72, Tryz.ntmps72
    go_wp2_with fail
    with_reducible refine Calls.mono hi ?_
    rintro e w1 ⟨⟨z, rfl, h1, h2⟩, hb1⟩
    have hz := h1 HE.out
    have hz' : decide (0 ≤ z) = true := decide_eq_true hz
    clear h1 h2
    go_wp2_with fail
    go_ret
    exact ⟨BoolIs.t HE.out, hb1⟩
  · have HE := Lib.hid hEE; clear hEE
    go_enter Tryz.func72, Tryz.ntmps72
    go_wp2_with fail
    with_reducible refine Calls.mono hi ?_
    rintro e w1 ⟨⟨z, rfl, h1, h2⟩, hb1⟩
    obtain rfl := h2 HE.out
    clear h1 h2
    go_wp2_with fail
    go_ret
    exact ⟨BoolIs.f HE.out, hb1⟩

/-- result: the terms themselves, if all are right; else an error. -/
theorem result_yes (A : Option Addr) (n c : Nat) (ts : List (ByteArray × ByteArray)) (hts : ∀ t ∈ ts, ShortT t) (hg : ∀ t ∈ ts, GoodT t) (w : World) (hW : Wd w) (h : IsT w w.heap.size A n c ts) (hm : n ≤ 40) :
    Calls Tryz.prog 33 #[.slice A n c] w fun e w' => e = .returned (.tuple #[.slice A n c, .int .i64 0]) ∧ Below w.heap.size w w' := by
  have hc := containsR_any A n c ts hts w hW h (by omega)
  have HE := Lib.hid (show ¬ ∃ t ∈ ts, ¬ GoodT t from fun ⟨t, ht, hn⟩ => hn (hg t ht))
  have hmm : ¬ 40 < (n : Int) := by omega
  go_enter Tryz.func33, Tryz.ntmps33
  go_wp2_with fail
  with_reducible refine Calls.mono hc ?_
  rintro e w1 ⟨hbo, hb1⟩
  obtain rfl := hbo.no HE.out
  clear hbo
  go_wp2_with fail
  go_ret2
  exact ⟨rfl, hb1⟩
theorem result_no (A : Option Addr) (n c : Nat) (ts : List (ByteArray × ByteArray)) (hts : ∀ t ∈ ts, ShortT t) (hg : ∃ t ∈ ts, ¬ GoodT t) (w : World) (hW : Wd w) (h : IsT w w.heap.size A n c ts) (hm : n ≤ 40) :
    Calls Tryz.prog 33 #[.slice A n c] w fun e w' => e = .returned (.tuple #[.slice none 0 0, .int .i64 4]) ∧ Below w.heap.size w w' := by
  have hc := containsR_any A n c ts hts w hW h (by omega)
  have HE := Lib.hid hg; clear hg
  have hmm : ¬ 40 < (n : Int) := by omega
  go_enter Tryz.func33, Tryz.ntmps33
  go_wp2_with fail
  with_reducible refine Calls.mono hc ?_
  rintro e w1 ⟨hbo, hb1⟩
  obtain rfl := hbo.yes HE.out
  clear hbo
  go_wp2_with fail
  go_ret2
  exact ⟨rfl, hb1⟩
end Go.Proofs.YtgfgpepdkffhbaaGreatDoor.Kl
namespace Go.Proofs.YtgfgpepdkffhbaaGreatDoor.Kl
open Go.RowKit Go.Shelf
set_option linter.unusedVariables false
set_option linter.unusedSimpArgs false

theorem sof_wrong (s : ByteArray) (hs : s.size ≤ 4294967280) (hr : ¬ RightR s.data.toList) (w : World) (hW : Wd w) :
    Calls Tryz.prog 9 #[.string s] w fun e w' => e = .returned (.tuple #[.slice none 0 0, .int .i64 2]) ∧ Below w.heap.size w w' := by
  have hc := checkR_wrong s hs hr w hW
  go_enter Tryz.func9, Tryz.ntmps9
  go_wp2_with (with_reducible refine Calls.mono hc ?_; rintro e w1 ⟨rfl, hb1⟩)
  go_ret2
  exact ⟨rfl, hb1⟩
theorem sof_neg (q : Rat) (hq : RS q) (hn : q.num < 0) (w : World) (hW : Wd w) :
    Calls Tryz.prog 9 #[.string (rtxt q)] w fun e w' => e = .returned (.tuple #[.slice none 0 0, .int .i64 3]) ∧ Below w.heap.size w w' := by
  have hc := checkR_right q hq w hW
  have hs := fun w => rsign_any q w
  rw [Int.sign_eq_neg_one_of_neg hn] at hs
  go_enter Tryz.func9, Tryz.ntmps9
  go_wp2_with (first
    | (with_reducible refine Calls.mono hc ?_; rintro e w1 ⟨rfl, hb1⟩; have hB := hs w1)
    | (with_reducible refine Calls.mono hB ?_; rintro e w2 ⟨rfl, rfl⟩))
  go_ret2
  exact ⟨rfl, hb1⟩
theorem sof_zero (w : World) (hW : Wd w) :
    Calls Tryz.prog 9 #[.string (rtxt 0)] w fun e w' => e = .returned (.tuple #[.slice none 0 0, .int .i64 0]) ∧ Below w.heap.size w w' := by
  have hz := rtxt_is_zero 0
  rw [show decide ((0 : Rat).num = 0) = true from rfl] at hz
  have hc := checkR_right 0 ⟨by show (Lib.decDigits 0).length ≤ 200; rw [dec_small (by decide)]; decide, by show (Lib.decDigits 1).length ≤ 200; rw [dec_small (by decide)]; decide⟩ w hW
  have hs := fun w => rsign_any 0 w
  rw [show (0 : Rat).num.sign = 0 from rfl] at hs
  go_enter Tryz.func9, Tryz.ntmps9
  go_wp2_with (first
    | (with_reducible refine Calls.mono hc ?_; rintro e w1 ⟨rfl, hb1⟩; have hB := hs w1)
    | (with_reducible refine Calls.mono hB ?_; rintro e w2 ⟨rfl, rfl⟩))
  go_ret2
  exact ⟨rfl, hb1⟩

theorem RS.len {q : Rat} (hq : RS q) : (rtl q).length ≤ 500 := by
  have := rtl_len q
  have h3 := dig_len hq.1
  have h4 : (Lib.itoa (q.den : Int)).length ≤ 200 := by rw [itoa_nat]; exact hq.2
  omega

/-- a fraction of right integers is a right number. -/
theorem RS.divInt {n d : Int} (hn : DL n 200) (hd : DL d 200) (hp : 0 < d) : RS (Rat.divInt n d) := by
  obtain ⟨g, hg⟩ : ∃ g : Int, (d.gcd n : Int) = g := ⟨_, rfl⟩
  constructor
  · have : (Rat.divInt n d).num = n / g := by rw [Rat.num_divInt, Int.sign_eq_one_of_pos hp, Int.one_mul, hg]
    rw [this]
    exact hn.ediv
  · have h2 : (Rat.divInt n d).den = d.natAbs / d.gcd n := by rw [Rat.den_divInt, if_neg (by omega)]
    rw [h2]
    apply dec_len_le _ (by decide)
    exact Nat.lt_of_le_of_lt (Nat.div_le_self _ _) hd.lt

set_option maxHeartbeats 1000000 in
theorem sof_square (q : Rat) (a : Nat) (ha : q.num = (a : Int)) (hq : RS q) (h0 : a ≠ 0) (hsq : isqrt (a * q.den) * isqrt (a * q.den) = a * q.den) (w : World) (hW : Wd w) :
    Calls Tryz.prog 9 #[.string (rtxt q)] w fun e w' => (∃ A, e = .returned (.tuple #[.slice A 1 1, .int .i64 0]) ∧ IsT w' w'.heap.size A 1 1 [(rtxt (Rat.divInt ((isqrt (a * q.den) : Nat) : Int) (q.den : Int)), txt 1)]) ∧ Below w.heap.size w w' := by
  have hc := checkR_right q hq w hW
  have hs := fun w => rsign_any q w
  have hz := rtxt_is_zero q
  have hpt := fun w hW => parts_any q (by have := hq.len; omega) w hW
  have hnd := hq.num
  have hdd := hq.den
  have hdp := q.den_pos
  rw [ha] at hs hz hpt hnd
  rw [Int.sign_eq_one_of_pos (by omega)] at hs
  rw [decide_eq_false (by omega)] at hz
  have hml := fun w hW => mul_any (a : Int) (q.den : Int) w hW (by have := hnd.itoa; omega) (by have := hdd.itoa; omega)
  rw [← Int.natCast_mul] at hml
  have hpd : DL ((a * q.den : Nat) : Int) 400 := by rw [Int.natCast_mul]; exact hnd.mul hdd (by decide)
  have hrt := fun w hW => sroot_any (a * q.den) (hpd.mono (by decide)) w hW
  rw [decide_eq_true hsq] at hrt
  have hrd : DL ((isqrt (a * q.den) : Nat) : Int) 200 := by
    apply DL.of_lt _ (by decide)
    rw [Int.natAbs_natCast]
    have h1 := hpd.lt
    rw [Int.natAbs_natCast] at h1
    apply Nat.lt_of_not_le
    intro hge
    have := Nat.mul_le_mul hge hge
    rw [← Nat.pow_add] at this
    omega
  have hov := fun w hW => over_any ((isqrt (a * q.den) : Nat) : Int) (q.den : Int) (by omega) (hrd.mono (by decide)) (hdd.mono (by decide)) w hW
  have hrs := RS.divInt hrd hdd (by omega)
  have hne : (Rat.divInt ((isqrt (a * q.den) : Nat) : Int) (q.den : Int)).num ≠ 0 := by
    intro h
    have h2 := Rat.num_eq_zero.1 h
    rw [Rat.divInt_ofNat, Rat.mkRat_eq_zero (by omega)] at h2
    have h3 : isqrt (a * q.den) = 0 := by omega
    have h4 := isqrt_zero_iff.1 h3
    rcases Nat.mul_eq_zero.1 h4 with h | h <;> omega
  have hfr := fun w hW => from_num _ hrs hne w hW
  have hdk : ∀ (w1 : World) (k : Nat), Below w.heap.size w w1 → Below w.heap.size w (w1.drewN k) := fun w1 k h => below_drewN h k
  have htr : ∀ a b c : World, Below a.heap.size a b → Below b.heap.size b c → Below a.heap.size a c := fun a b c h1 h2 => h1.trans (h2.mono h1.size)
  have htk : ∀ (w1 w2 : World) (k : Nat), Below w.heap.size w w1 → Below (w1.drewN k).heap.size (w1.drewN k) w2 → Below w.heap.size w w2 := fun w1 w2 k h1 h2 => (below_drewN h1 k).trans (h2.mono h1.size)
  obtain ⟨r, hr⟩ : ∃ r, isqrt (a * q.den) = r := ⟨_, rfl⟩
  obtain ⟨p, hp⟩ : ∃ p, a * q.den = p := ⟨_, rfl⟩
  rw [hr] at hov hfr hrt ⊢
  rw [hp] at hml hrt
  obtain ⟨F, hF⟩ : ∃ F, rtxt (Rat.divInt (r : Int) (q.den : Int)) = F := ⟨_, rfl⟩
  rw [hF] at hov hfr ⊢
  clear hne hrs hrd hpd hsq hr hp hdp hnd hdd hF
  go_enter Tryz.func9, Tryz.ntmps9
  go_wp2_with (first
    | (with_reducible refine Calls.mono hc ?_; rintro e w1 ⟨rfl, hb1⟩; have hB := hs w1)
    | (with_reducible refine Calls.mono hB ?_; rintro e w2 ⟨rfl, hw2⟩; replace hw2 := hw2.symm; subst hw2; have hC := hpt w1 (hW.below hb1))
    | (with_reducible refine Calls.mono hC ?_; rintro e w3 ⟨rfl, k, rfl⟩; have hbk := hdk w1 k hb1; have hD := hml (w1.drewN k) (hW.below hbk))
    | (with_reducible refine Calls.mono hD ?_; rintro e w4 ⟨rfl, hb4⟩; have hB4 := htk w1 w4 k hb1 hb4; have hE := hrt w4 (hW.below hB4))
    | (with_reducible refine Calls.mono hE ?_; rintro e w5 ⟨rfl, hb5⟩; have hB5 := htr _ _ _ hB4 hb5; have hF := hov w5 (hW.below hB5))
    | (with_reducible refine Calls.mono hF ?_; rintro e w6 ⟨rfl, hb6⟩; have hB6 := htr _ _ _ hB5 hb6; have hG := hfr w6 (hW.below hB6))
    | (with_reducible refine Calls.mono hG ?_; rintro e w7 ⟨⟨A7, rfl, hT⟩, hb7⟩))
  go_ret2
  exact ⟨⟨A7, rfl, hT⟩, htr _ _ _ hB6 hb7⟩

set_option maxHeartbeats 1000000 in
theorem sof_plain (q : Rat) (a : Nat) (ha : q.num = (a : Int)) (hq : RS q) (h0 : a ≠ 0) (hsq : ¬ isqrt (a * q.den) * isqrt (a * q.den) = a * q.den) (w : World) (hW : Wd w) :
    Calls Tryz.prog 9 #[.string (rtxt q)] w fun e w' => ((DL ((a * q.den : Nat) : Int) 200 → ∃ A, e = .returned (.tuple #[.slice A 1 1, .int .i64 0]) ∧ IsT w' w'.heap.size A 1 1 [(rtxt (Rat.divInt 1 (q.den : Int)), txt ((a * q.den : Nat) : Int))]) ∧ (¬ DL ((a * q.den : Nat) : Int) 200 → e = .returned (.tuple #[.slice none 0 0, .int .i64 4]))) ∧ Below w.heap.size w w' := by
  have hc := checkR_right q hq w hW
  have hs := fun w => rsign_any q w
  have hz := rtxt_is_zero q
  have hpt := fun w hW => parts_any q (by have := hq.len; omega) w hW
  have hnd := hq.num
  have hdd := hq.den
  have hdp := q.den_pos
  rw [ha] at hs hz hpt hnd
  rw [Int.sign_eq_one_of_pos (by omega)] at hs
  rw [decide_eq_false (by omega)] at hz
  have hml := fun w hW => mul_any (a : Int) (q.den : Int) w hW (by have := hnd.itoa; omega) (by have := hdd.itoa; omega)
  rw [← Int.natCast_mul] at hml
  have hpd : DL ((a * q.den : Nat) : Int) 400 := by rw [Int.natCast_mul]; exact hnd.mul hdd (by decide)
  have hrt := fun w hW => sroot_any (a * q.den) (hpd.mono (by decide)) w hW
  rw [decide_eq_false hsq] at hrt
  have h1d : DL 1 200 := by unfold DL; rw [show (1 : Int).natAbs = 1 from rfl, dec_small (by decide)]; decide
  have hov := fun w hW => over_any 1 (q.den : Int) (by omega) (h1d.mono (by decide)) (hdd.mono (by decide)) w hW
  rw [← txt_one'] at hov
  have hrs := RS.divInt h1d hdd (by omega)
  have hdk : ∀ (w1 : World) (k : Nat), Below w.heap.size w w1 → Below w.heap.size w (w1.drewN k) := fun w1 k h => below_drewN h k
  have htr : ∀ a b c : World, Below a.heap.size a b → Below b.heap.size b c → Below a.heap.size a c := fun a b c h1 h2 => h1.trans (h2.mono h1.size)
  have htk : ∀ (w1 w2 : World) (k : Nat), Below w.heap.size w w1 → Below (w1.drewN k).heap.size (w1.drewN k) w2 → Below w.heap.size w w2 := fun w1 w2 k h1 h2 => (below_drewN h1 k).trans (h2.mono h1.size)
  obtain ⟨F, hF⟩ : ∃ F, rtxt (Rat.divInt 1 (q.den : Int)) = F := ⟨_, rfl⟩
  obtain ⟨p, hp⟩ : ∃ p, a * q.den = p := ⟨_, rfl⟩
  have hFs : F.size ≤ 4294967280 := by rw [← hF, rtxt_size]; have := hrs.len; omega
  have hFr : RightR F.data.toList := ⟨_, by rw [← hF, rtxt_list], hrs.1, hrs.2⟩
  rw [hF] at hov ⊢
  rw [hp] at hml hrt hpd ⊢
  have hps : (txt (p : Int)).size ≤ 4294967280 := by rw [txt_size]; have := hpd.itoa; omega
  have HFR := Lib.hid hFr
  clear hrs hpd hsq hp hdp hnd hdd hF hFr
  obtain ⟨r, hr⟩ : ∃ r, isqrt p = r := ⟨_, rfl⟩
  rw [hr] at hrt
  clear hr
  go_enter Tryz.func9, Tryz.ntmps9
  go_wp2_with (first
    | (with_reducible refine Calls.mono hc ?_; rintro e w1 ⟨rfl, hb1⟩; have hB := hs w1)
    | (with_reducible refine Calls.mono hB ?_; rintro e w2 ⟨rfl, hw2⟩; replace hw2 := hw2.symm; subst hw2; have hC := hpt w1 (hW.below hb1))
    | (with_reducible refine Calls.mono hC ?_; rintro e w3 ⟨rfl, k, rfl⟩; have hbk := hdk w1 k hb1; have hD := hml (w1.drewN k) (hW.below hbk))
    | (with_reducible refine Calls.mono hD ?_; rintro e w4 ⟨rfl, hb4⟩; have hB4 := htk w1 w4 k hb1 hb4; have hE := hrt w4 (hW.below hB4))
    | (with_reducible refine Calls.mono hE ?_; rintro e w5 ⟨rfl, hb5⟩; have hB5 := htr _ _ _ hB4 hb5; have hF := hov w5 (hW.below hB5))
    | (with_reducible refine Calls.mono hF ?_; rintro e w6 ⟨rfl, hb6⟩; have hB6 := htr _ _ _ hB5 hb6))
  have hal : Below w6.heap.size w6 (w6.alloc (.cells #[.string F, .string (txt (p : Int))] 45)) := (Below.refl _ _).alloc (Nat.le_refl _) _
  have hT : IsT (w6.alloc (.cells #[.string F, .string (txt (p : Int))] 45)) (w6.alloc (.cells #[.string F, .string (txt (p : Int))] 45)).heap.size (some ⟨w6.heap.size, 0, none⟩) 1 1 [(F, txt (p : Int))] := IsT.of_block (ts := [(F, txt (p : Int))]) (heap_alloc_new w6 _) rfl
  obtain ⟨W7, hW7⟩ : ∃ W7, w6.alloc (.cells #[.string F, .string (txt (p : Int))] 45) = W7 := ⟨_, rfl⟩
  rw [hW7] at hal hT ⊢
  clear hW7
  have hB7 := htr _ _ _ hB6 hal
  have hsh : ∀ t ∈ [(F, txt (p : Int))], ShortT t := fun t ht => by
    simp at ht; subst ht; exact ⟨hFs, hps⟩
  by_cases hlen : DL (p : Int) 200
  · have hres := result_yes _ 1 1 _ hsh (fun t ht => by
      simp at ht; subst ht; exact ⟨HFR.out, ⟨p, txt_list _, hlen⟩⟩) W7 (hW.below hB7) hT (by decide)
    have HLEN := Lib.hid hlen; clear hlen
    with_reducible refine Calls.mono hres ?_
    rintro e w8 ⟨rfl, hb8⟩
    go_wp2_with fail
    go_ret2
    exact ⟨⟨fun _ => ⟨_, rfl, hT.to hb8 (Nat.le_refl _)⟩, fun h => absurd HLEN.out h⟩, htr _ _ _ hB7 hb8⟩
  · have hres := result_no _ 1 1 _ hsh ⟨_, List.mem_singleton.2 rfl, fun h => hlen (by
      obtain ⟨x, e, l⟩ := h.2
      rw [txt_list] at e
      rw [itoa_inj e]; exact l)⟩ W7 (hW.below hB7) hT (by decide)
    have HLEN := Lib.hid hlen; clear hlen
    with_reducible refine Calls.mono hres ?_
    rintro e w8 ⟨rfl, hb8⟩
    go_wp2_with fail
    go_ret2
    exact ⟨⟨fun h => absurd h HLEN.out, fun _ => rfl⟩, htr _ _ _ hB7 hb8⟩
end Go.Proofs.YtgfgpepdkffhbaaGreatDoor.Kl
namespace Go.Proofs.YtgfgpepdkffhbaaGreatDoor.Kl
open Go.RowKit Go.Shelf
set_option linter.unusedVariables false
set_option linter.unusedSimpArgs false

theorem rof_wrong (s : ByteArray) (hs : s.size ≤ 4294967280) (hr : ¬ RightR s.data.toList) (w : World) (hW : Wd w) :
    Calls Tryz.prog 11 #[.string s] w fun e w' => e = .returned (.tuple #[.slice none 0 0, .int .i64 2]) ∧ Below w.heap.size w w' := by
  have hc := refParts_wrong s hs hr w hW
  go_enter Tryz.func11, Tryz.ntmps11
  go_wp2_with (with_reducible refine Calls.mono hc ?_; rintro e w1 ⟨⟨a, b, rfl⟩, hb1⟩)
  go_ret2
  exact ⟨rfl, hb1⟩
theorem rof_neg (q : Rat) (hq : RS q) (hn : q.num < 0) (w : World) (hW : Wd w) :
    Calls Tryz.prog 11 #[.string (rtxt q)] w fun e w' => e = .returned (.tuple #[.slice none 0 0, .int .i64 3]) ∧ Below w.heap.size w w' := by
  have hc := refParts_right q hq.1 hq.2 w hW
  have hs := fun w => refSign_any q.num (by have := hq.num.itoa; omega) w
  rw [Int.sign_eq_neg_one_of_neg hn] at hs
  go_enter Tryz.func11, Tryz.ntmps11
  go_wp2_with (first
    | (with_reducible refine Calls.mono hc ?_; rintro e w1 ⟨rfl, hb1⟩; have hB := hs w1)
    | (with_reducible refine Calls.mono hB ?_; rintro e w2 ⟨rfl, hb2⟩))
  go_ret2
  exact ⟨rfl, hb1.trans (hb2.mono hb1.size)⟩
theorem rof_zero (w : World) (hW : Wd w) :
    Calls Tryz.prog 11 #[.string (rtxt 0)] w fun e w' => e = .returned (.tuple #[.slice none 0 0, .int .i64 0]) ∧ Below w.heap.size w w' := by
  have hc := refParts_right 0 (by show (Lib.decDigits 0).length ≤ 200; rw [dec_small (by decide)]; decide) (by show (Lib.decDigits 1).length ≤ 200; rw [dec_small (by decide)]; decide) w hW
  have hs := fun w => refSign_any (0 : Rat).num (by rw [show (0 : Rat).num = 0 from rfl, itoa_zero]; decide) w
  rw [show (0 : Rat).num.sign = 0 from rfl] at hs
  have hz := txt_is_zero (0 : Rat).num
  rw [show decide ((0 : Rat).num = 0) = true from rfl] at hz
  obtain ⟨N, hN⟩ : ∃ N, txt (0 : Rat).num = N := ⟨_, rfl⟩
  rw [hN] at hc hs hz
  clear hN
  go_enter Tryz.func11, Tryz.ntmps11
  go_wp2_with (first
    | (with_reducible refine Calls.mono hc ?_; rintro e w1 ⟨rfl, hb1⟩; have hB := hs w1)
    | (with_reducible refine Calls.mono hB ?_; rintro e w2 ⟨rfl, hb2⟩))
  go_ret2
  exact ⟨rfl, hb1.trans (hb2.mono hb1.size)⟩

theorem isqrt_dl {p k : Nat} (h : DL (p : Int) (k + k)) (hk : 1 ≤ k) : DL ((isqrt p : Nat) : Int) k := by
  apply DL.of_lt _ hk
  rw [Int.natAbs_natCast]
  have h1 := h.lt
  rw [Int.natAbs_natCast] at h1
  apply Nat.lt_of_not_le
  intro hge
  have := Nat.mul_le_mul hge hge
  rw [← Nat.pow_add] at this
  have := isqrt_le p
  omega

set_option maxHeartbeats 1000000 in
theorem rof_square (q : Rat) (a : Nat) (ha : q.num = (a : Int)) (hq : RS q) (h0 : a ≠ 0) (hsq : isqrt (a * q.den) * isqrt (a * q.den) = a * q.den) (w : World) (hW : Wd w) :
    Calls Tryz.prog 11 #[.string (rtxt q)] w fun e w' => (∃ A, e = .returned (.tuple #[.slice A 1 1, .int .i64 0]) ∧ IsT w' w'.heap.size A 1 1 [(rtxt (Rat.divInt ((isqrt (a * q.den) : Nat) : Int) (q.den : Int)), txt 1)]) ∧ Below w.heap.size w w' := by
  have hc := refParts_right q hq.1 hq.2 w hW
  have hnd := hq.num
  have hdd := hq.den
  have hdp := q.den_pos
  rw [ha] at hc hnd
  have hs := fun w => refSign_any (a : Int) (by have := hnd.itoa; omega) w
  rw [Int.sign_eq_one_of_pos (by omega)] at hs
  have hz := txt_is_zero (a : Int)
  rw [decide_eq_false (by omega)] at hz
  have hml := fun w hW => refMul_any (a : Int) (q.den : Int) (hnd.mono (by decide)) (hdd.mono (by decide)) w hW
  rw [← Int.natCast_mul] at hml
  have hpd : DL ((a * q.den : Nat) : Int) (200 + 200) := by rw [Int.natCast_mul]; exact hnd.mul hdd (by decide)
  have hrt := fun w hW => refSquare_any (a * q.den) (hpd.mono (by decide)) w hW
  rw [decide_eq_true hsq] at hrt
  have hrd := isqrt_dl hpd (by decide)
  have hov := fun w hW => refMake_any ((isqrt (a * q.den) : Nat) : Int) (q.den : Int) (by omega) (hrd.mono (by decide)) (hdd.mono (by decide)) w hW
  have htr : ∀ a b c : World, Below a.heap.size a b → Below b.heap.size b c → Below a.heap.size a c := fun a b c h1 h2 => h1.trans (h2.mono h1.size)
  obtain ⟨r, hr⟩ : ∃ r, isqrt (a * q.den) = r := ⟨_, rfl⟩
  obtain ⟨p, hp⟩ : ∃ p, a * q.den = p := ⟨_, rfl⟩
  rw [hr] at hov hrt ⊢
  rw [hp] at hml hrt
  obtain ⟨F, hF⟩ : ∃ F, rtxt (Rat.divInt (r : Int) (q.den : Int)) = F := ⟨_, rfl⟩
  rw [hF] at hov ⊢
  rw [← txt_one']
  clear hrd hpd hsq hr hp hdp hnd hdd hF
  go_enter Tryz.func11, Tryz.ntmps11
  go_wp2_with (first
    | (with_reducible refine Calls.mono hc ?_; rintro e w1 ⟨rfl, hb1⟩; have hB := hs w1)
    | (with_reducible refine Calls.mono hB ?_; rintro e w2 ⟨rfl, hb2⟩; have hB2 := htr _ _ _ hb1 hb2; have hC := hml w2 (hW.below hB2))
    | (with_reducible refine Calls.mono hC ?_; rintro e w3 ⟨rfl, hb3⟩; have hB3 := htr _ _ _ hB2 hb3; have hD := hrt w3 (hW.below hB3))
    | (with_reducible refine Calls.mono hD ?_; rintro e w4 ⟨rfl, hb4⟩; have hB4 := htr _ _ _ hB3 hb4; have hE := hov w4 (hW.below hB4))
    | (with_reducible refine Calls.mono hE ?_; rintro e w5 ⟨rfl, hb5⟩; have hB5 := htr _ _ _ hB4 hb5))
  go_ret2
  exact ⟨⟨_, rfl, IsT.of_block (ts := [(F, ⟨#[49]⟩)]) (heap_alloc_new w5 _) rfl⟩, hB5.alloc hB5.size _⟩

theorem itoa_nat_len (p : Nat) : (txt (p : Int)).size = (Lib.decDigits p).length := by rw [txt_size, itoa_nat]

set_option maxHeartbeats 1000000 in
theorem rof_plain (q : Rat) (a : Nat) (ha : q.num = (a : Int)) (hq : RS q) (h0 : a ≠ 0) (hsq : ¬ isqrt (a * q.den) * isqrt (a * q.den) = a * q.den) (w : World) (hW : Wd w) :
    Calls Tryz.prog 11 #[.string (rtxt q)] w fun e w' => ((DL ((a * q.den : Nat) : Int) 200 → ∃ A, e = .returned (.tuple #[.slice A 1 1, .int .i64 0]) ∧ IsT w' w'.heap.size A 1 1 [(rtxt (Rat.divInt 1 (q.den : Int)), txt ((a * q.den : Nat) : Int))]) ∧ (¬ DL ((a * q.den : Nat) : Int) 200 → e = .returned (.tuple #[.slice none 0 0, .int .i64 4]))) ∧ Below w.heap.size w w' := by
  have hc := refParts_right q hq.1 hq.2 w hW
  have hnd := hq.num
  have hdd := hq.den
  have hdp := q.den_pos
  rw [ha] at hc hnd
  have hs := fun w => refSign_any (a : Int) (by have := hnd.itoa; omega) w
  rw [Int.sign_eq_one_of_pos (by omega)] at hs
  have hz := txt_is_zero (a : Int)
  rw [decide_eq_false (by omega)] at hz
  have hml := fun w hW => refMul_any (a : Int) (q.den : Int) (hnd.mono (by decide)) (hdd.mono (by decide)) w hW
  rw [← Int.natCast_mul] at hml
  have hpd : DL ((a * q.den : Nat) : Int) (200 + 200) := by rw [Int.natCast_mul]; exact hnd.mul hdd (by decide)
  have hrt := fun w hW => refSquare_any (a * q.den) (hpd.mono (by decide)) w hW
  rw [decide_eq_false hsq] at hrt
  have h1d : DL 1 200 := by unfold DL; rw [show (1 : Int).natAbs = 1 from rfl, dec_small (by decide)]; decide
  have hov := fun w hW => refMake_any 1 (q.den : Int) (by omega) (h1d.mono (by decide)) (hdd.mono (by decide)) w hW
  rw [← txt_one'] at hov
  have htr : ∀ a b c : World, Below a.heap.size a b → Below b.heap.size b c → Below a.heap.size a c := fun a b c h1 h2 => h1.trans (h2.mono h1.size)
  obtain ⟨F, hF⟩ : ∃ F, rtxt (Rat.divInt 1 (q.den : Int)) = F := ⟨_, rfl⟩
  obtain ⟨p, hp⟩ : ∃ p, a * q.den = p := ⟨_, rfl⟩
  rw [hF] at hov ⊢
  rw [hp] at hml hrt ⊢
  have hps := itoa_nat_len p
  obtain ⟨r, hr⟩ : ∃ r, isqrt p = r := ⟨_, rfl⟩
  rw [hr] at hrt
  clear hpd hsq hr hp hdp hnd hdd hF
  obtain ⟨l, hl⟩ : ∃ l, (Lib.decDigits p).length = l := ⟨_, rfl⟩
  rw [hl] at hps
  have hdl : DL (p : Int) 200 ↔ l ≤ 200 := by unfold DL; rw [Int.natAbs_natCast, hl]
  rw [hdl]
  clear hdl hl
  by_cases hlen : l ≤ 200
  · have hl2 : ¬ (200 : Int) < (l : Int) := by omega
    go_enter Tryz.func11, Tryz.ntmps11
    go_wp2_with (first
      | (with_reducible refine Calls.mono hc ?_; rintro e w1 ⟨rfl, hb1⟩; have hB := hs w1)
      | (with_reducible refine Calls.mono hB ?_; rintro e w2 ⟨rfl, hb2⟩; have hB2 := htr _ _ _ hb1 hb2; have hC := hml w2 (hW.below hB2))
      | (with_reducible refine Calls.mono hC ?_; rintro e w3 ⟨rfl, hb3⟩; have hB3 := htr _ _ _ hB2 hb3; have hD := hrt w3 (hW.below hB3))
      | (with_reducible refine Calls.mono hD ?_; rintro e w4 ⟨rfl, hb4⟩; have hB4 := htr _ _ _ hB3 hb4; have hE := hov w4 (hW.below hB4))
      | (with_reducible refine Calls.mono hE ?_; rintro e w5 ⟨rfl, hb5⟩; have hB5 := htr _ _ _ hB4 hb5))
    go_ret2
    exact ⟨⟨fun _ => ⟨_, rfl, IsT.of_block (ts := [(F, txt (p : Int))]) (heap_alloc_new w5 _) rfl⟩, fun h => absurd hlen h⟩, hB5.alloc hB5.size _⟩
  · have hl2 : (200 : Int) < (l : Int) := by omega
    go_enter Tryz.func11, Tryz.ntmps11
    go_wp2_with (first
      | (with_reducible refine Calls.mono hc ?_; rintro e w1 ⟨rfl, hb1⟩; have hB := hs w1)
      | (with_reducible refine Calls.mono hB ?_; rintro e w2 ⟨rfl, hb2⟩; have hB2 := htr _ _ _ hb1 hb2; have hC := hml w2 (hW.below hB2))
      | (with_reducible refine Calls.mono hC ?_; rintro e w3 ⟨rfl, hb3⟩; have hB3 := htr _ _ _ hB2 hb3; have hD := hrt w3 (hW.below hB3))
      | (with_reducible refine Calls.mono hD ?_; rintro e w4 ⟨rfl, hb4⟩; have hB4 := htr _ _ _ hB3 hb4))
    go_ret2
    exact ⟨⟨fun h => absurd h hlen, fun _ => rfl⟩, hB4⟩
end Go.Proofs.YtgfgpepdkffhbaaGreatDoor.Kl
namespace Go.Proofs.YtgfgpepdkffhbaaGreatDoor.Kl
open Go.RowKit Go.Shelf
set_option linter.unusedVariables false
set_option linter.unusedSimpArgs false

theorem info_rterm : (Tryz.prog.info? 39).map (fun i => (i.zero, i.size, i.bytes)) = some (some (.agg #[.string ⟨#[]⟩, .string ⟨#[]⟩]), 2, 32) := by kernel_rfl
theorem info_sterm : (Tryz.prog.info? 45).map (fun i => (i.zero, i.size, i.bytes)) = some (some (.agg #[.string ⟨#[]⟩, .string ⟨#[]⟩]), 2, 32) := by kernel_rfl
theorem term_parts {P : Program} {T : TypeId} (h : (P.info? T).map (fun i => (i.zero, i.size, i.bytes)) = some (some (.agg #[.string ⟨#[]⟩, .string ⟨#[]⟩]), 2, 32)) : ∃ i, P.info? T = some i ∧ i.zero = some (.agg #[.string ⟨#[]⟩, .string ⟨#[]⟩]) ∧ i.size = 2 ∧ i.bytes = 32 := by
  cases hi : P.info? T with
  | none => rw [hi] at h; cases h
  | some i =>
    rw [hi] at h
    simp only [Option.map_some, Option.some.injEq, Prod.mk.injEq] at h
    exact ⟨i, rfl, h.1, h.2.1, h.2.2⟩

/-- the value v owns the row of the terms ts. -/
def OwnT (e : TypeId) (w : World) (base : Nat) (v : Value) (ts : List (ByteArray × ByteArray)) : Prop := w.ownsRow base e 2 v ts.length (tsv ts)
section
variable {e : TypeId} {w w' : World} {base : Nat} {v : Value} {ts : List (ByteArray × ByteArray)}
theorem OwnT.nil (e : TypeId) (w : World) (base : Nat) : OwnT e w base (.slice none 0 0) [] := World.ownsRow_nil _ _ _ _
theorem OwnT.alloc (h : OwnT e w base v ts) (o : Obj) : OwnT e (w.alloc o) base v ts := World.ownsRow.alloc h o
theorem OwnT.base' (h : OwnT e w base v ts) : ∀ g, v.ownBlock = some g → base ≤ g := fun g hg => by
  rcases h.2 with ⟨rfl, _⟩ | ⟨g', cap, cur, rfl, hb, _⟩
  · simp [Value.ownBlock] at hg
  · have : g' = g := by simpa [Value.ownBlock] using hg
    subst this; exact hb
theorem OwnT.form (h : OwnT e w base v ts) : ∃ A c, v = .slice A ts.length c ∧ IsT w w.heap.size A ts.length c ts := by
  rcases h.2 with ⟨hv, h0⟩ | ⟨g, cap, cur, hv, hg, hh, hnc, _⟩
  · have : ts = [] := List.eq_nil_of_length_eq_zero h0
    subst this
    exact ⟨none, 0, hv, IsT.nil _ _ _ _⟩
  · refine ⟨_, _, hv, rfl, hnc, ?_⟩
    subst hv
    exact Reads.of_own h
theorem OwnT.snoc {t : ByteArray × ByteArray} {v' : Value} (h : w'.ownsRow base e 2 v' (ts.length + 1) (tsv ts ++ [.string t.1, .string t.2])) : OwnT e w' base v' (ts ++ [t]) := by
  unfold OwnT
  rw [List.length_append, List.length_singleton, show tsv (ts ++ [t]) = tsv ts ++ [.string t.1, .string t.2] by simp [tsv]]
  exact h
end

section
variable {P : Program} (w : World)
/-- append(out, t), t a new row of one term. -/
theorem wp_append_term {o : Oper} {a : Act} {K : Act → World → Prop} {Q : Exit → Act → World → Prop} (s x : Operand) (t : TypeId)
    (ho : o.op = .call { callee := .builtin .append, args := #[s, x], argTypes := #[t, t] })
    (base : Nat) (e : TypeId) (i : TypeInfo) (ht : P.underlying t = some (.slice e)) (hi : P.info? e = some i) (hz : i.zero = some (.agg #[.string ⟨#[]⟩, .string ⟨#[]⟩]))
    (hsize : i.size = 2) (hby : i.bytes = 32)
    (v : Value) (ts : List (ByteArray × ByteArray)) (hs : a.eval s = v) (hown : OwnT e w base v ts)
    (g : Nat) (c : Nat) (tm : ByteArray × ByteArray) (hx : a.eval x = .slice (some ⟨g, 0, none⟩) 1 c) (hc0 : w.cell? ⟨g, 0, none⟩ = some (.string tm.1)) (hc1 : w.cell? ⟨g, 1, none⟩ = some (.string tm.2))
    (h63 : ts.length + 1 ≤ maxLen) (hbytes : (ts.length + 1) * 32 ≤ 140737488355328) (hbase : base ≤ w.heap.size)
    (h : ∀ v' w', OwnT e w' base v' (ts ++ [tm]) → w.grownBy w' v.ownBlock → K (a.put o.dst v') w') : o.wp P a w K Q := by
  exact wp_append_own (P := P) w s x t ho base e i (.agg #[.string ⟨#[]⟩, .string ⟨#[]⟩]) 2 32 ht hi hz hsize hby rfl (by decide) v ts.length (tsv ts) hs hown ⟨g, 0, none⟩ 1 c [.string tm.1, .string tm.2] hx rfl
    (fun j u hu => by
      match j, hu with
      | 0, hu =>
        simp only [List.getElem?_cons_zero, Option.some.injEq] at hu
        subst hu
        simpa [Addr.add] using hc0
      | 1, hu =>
        simp only [List.getElem?_cons_succ, List.getElem?_cons_zero, Option.some.injEq] at hu
        subst hu
        simpa [Addr.add] using hc1)
    (fun u hu => by simp only [List.mem_cons, List.not_mem_nil, or_false] at hu; rcases hu with rfl | rfl <;> rfl) h63 hbytes hbase (fun v' w' h2 h3 _ => h v' w' (OwnT.snoc h2) h3)

theorem step_append_term {ops : Array Oper} {o : Oper} {a : Act} {K : Act → World → Prop} {Q : Exit → Act → World → Prop} {F : Prop} (hgd : o.guard = none) (s x : Operand) (t : TypeId)
    (ho : o.op = .call { callee := .builtin .append, args := #[s, x], argTypes := #[t, t] })
    (base : Nat) (e : TypeId) (i : TypeInfo) (ht : P.underlying t = some (.slice e)) (hi : P.info? e = some i) (hz : i.zero = some (.agg #[.string ⟨#[]⟩, .string ⟨#[]⟩]))
    (hsize : i.size = 2) (hby : i.bytes = 32)
    (v : Value) (ts : List (ByteArray × ByteArray)) (hs : a.eval s = v) (hown : OwnT e w base v ts)
    (g : Nat) (c : Nat) (tm : ByteArray × ByteArray) (hx : a.eval x = .slice (some ⟨g, 0, none⟩) 1 c) (hc0 : w.cell? ⟨g, 0, none⟩ = some (.string tm.1)) (hc1 : w.cell? ⟨g, 1, none⟩ = some (.string tm.2))
    (h63 : ts.length + 1 ≤ maxLen) (hbytes : (ts.length + 1) * 32 ≤ 140737488355328) (hbase : base ≤ w.heap.size)
    (h : ∀ v' w', OwnT e w' base v' (ts ++ [tm]) → w.grownBy w' v.ownBlock → K (a.put o.dst v') w') :
    if Region.wanted o (yielded ops a.tmps) = true then Oper.wp P o a w K Q else F := by
  have hw : Region.wanted o (yielded ops a.tmps) = true := by simp [Region.wanted, hgd]
  rw [if_pos hw]
  exact wp_append_term w s x t ho base e i ht hi hz hsize hby v ts hs hown g c tm hx hc0 hc1 h63 hbytes hbase h
end

set_option maxRecDepth 100000 in
set_option maxHeartbeats 1000000 in
theorem plain_any (A : Option Addr) (n c : Nat) (ts : List (ByteArray × ByteArray)) (w : World) (h : IsT w w.heap.size A n c ts) (hm : n ≤ 1000000) :
    Calls Tryz.prog 13 #[.slice A n c] w fun e w' => (∃ A1 c1, e = .returned (.slice A1 n c1) ∧ IsT w' w'.heap.size A1 n c1 ts) ∧ Below w.heap.size w w' := by
  obtain ⟨i0, hi0, hz0, hz1, hz2⟩ := term_parts info_rterm
  have hlen := h.len
  have HL := Lib.hid hlen; clear hlen
  go_enter Tryz.func13, Tryz.ntmps13
  go_wp2_with fail
  go_loopw [3, 4] (fun v iv wr => ∃ k : Nat, iv = .int .i64 (k : Int) ∧ k ≤ n ∧ OwnT 39 wr w.heap.size v (ts.take k) ∧ Below w.heap.size w wr) (fun _ iv _ => n - (intOf iv).toNat)
  case atStart => exact ⟨0, rfl, Nat.zero_le _, OwnT.nil _ _ _, Below.refl _ _⟩
  case round =>
    obtain ⟨k, rfl, hk, hown, hbel⟩ := hrel
    by_cases hkn : k < n
    · obtain ⟨ad, t, rfl, hb, htk, hc1, hc2⟩ := (h.below hbel).at_ hkn
      rw [add_next] at hc2
      have htl : (ts.take k).length ≤ 1000000 := by rw [List.length_take]; omega
      have hsn : ts.take (k + 1) = ts.take k ++ [t] := by rw [List.take_add_one, htk]; rfl
      have HSN := Lib.hid hsn; clear hsn htk
      obtain ⟨us, hus⟩ : ∃ us, ts.take k = us := ⟨_, rfl⟩
      rw [hus] at hown htl HSN
      clear hus
      go_wp2_with fail
      have hal : Below w.heap.size w (wr.alloc (.cells #[.string t.1, .string t.2] 39)).drew := (hbel.alloc hbel.size _).drew
      have hHB := Lib.hid hal; clear hal
      have hwg : w.heap.size ≤ wr.heap.size := hbel.size
      go_region_law (refine step_append_term _ rfl _ _ 30 rfl w.heap.size 39 i0 Tryz.underlying30 hi0 hz0 hz1 hz2 _ us (by simp [Act.eval, Act.put]) (hown.alloc _) wr.heap.size 1 t (by simp [Act.eval, Act.put]) (by simp) (by simp) (by unfold maxLen; omega) (by omega) (by simp; omega) ?_; intro v' w2 hown' hgrow)
      all_goals (
        have hb2 : Below w.heap.size w w2 := hHB.out.grown hgrow (by simp; omega) (hown.base')
        have HOW : RowKit.Hid (OwnT 39 w2 w.heap.size v' (ts.take (k + 1))) := by
          have := HSN.out
          rw [this]; exact hown'
        clear hown' hgrow hHB hown)
      all_goals go_simp
      all_goals go_wp2_with fail
      all_goals exact ⟨⟨k + 1, by congr 1, hkn, HOW.out, hb2⟩, by simp [intOf]; omega⟩
    · have hke : k = n := by omega
      obtain ⟨A1, c1, rfl, hT⟩ := hown.form
      subst hke
      have hte : ts.take k = ts := List.take_of_length_le (by have := HL.out; omega)
      rw [hte, HL.out] at hT
      rw [hte, HL.out]
      clear hte
      go_wp2_with fail
      go_ret
      exact ⟨⟨A1, c1, rfl, hT⟩, hbel⟩
end Go.Proofs.YtgfgpepdkffhbaaGreatDoor.Kl
namespace Go.Proofs.YtgfgpepdkffhbaaGreatDoor.Kl
open Go.RowKit Go.Shelf
set_option linter.unusedVariables false
set_option linter.unusedSimpArgs false

set_option maxRecDepth 100000 in
set_option maxHeartbeats 1000000 in
theorem same_any (A A' : Option Addr) (n n' c c' : Nat) (ts us : List (ByteArray × ByteArray)) (w : World) (h : IsT w w.heap.size A n c ts) (h' : IsT w w.heap.size A' n' c' us) (hm : n ≤ 1000000) (hm' : n' ≤ 1000000) :
    Calls Tryz.prog 12 #[.slice A n c, .slice A' n' c'] w fun e w' => BoolIs e (ts = us) ∧ Below w.heap.size w w' := by
  have hl := h.len
  have hl' := h'.len
  by_cases hn : n = n'
  · have HL := Lib.hid hl; clear hl
    have HL' := Lib.hid hl'; clear hl'
    subst hn
    have hne : ((n : Int) != (n : Int)) = false := by simp
    go_enter Tryz.func12, Tryz.ntmps12
    go_wp2_with fail
    go_loopw [5] (fun v wr => ∃ k : Nat, v = .int .i64 (k : Int) ∧ k ≤ n ∧ RowKit.Hid (ts.take k = us.take k) ∧ Below w.heap.size w wr) (fun v _ => n - (intOf v).toNat)
    case atStart => exact ⟨0, rfl, Nat.zero_le _, Lib.hid rfl, Below.refl _ _⟩
    case round =>
      obtain ⟨k, rfl, hk, heq, hbel⟩ := hrel
      by_cases hkn : k < n
      · obtain ⟨ad, t, rfl, hb, htk, hc1, hc2⟩ := (h.below hbel).at_ hkn
        obtain ⟨ad', u, rfl, hb', huk, hd1, hd2⟩ := (h'.below hbel).at_ hkn
        rw [add_next] at hc2 hd2
        have HT := Lib.hid htk; clear htk
        have HU := Lib.hid huk; clear huk
        have hback : t.1.toList = u.1.toList → t.2.toList = u.2.toList → t = u := fun e1 e2 => by
          rw [ByteArray.toList_eq, ByteArray.toList_eq] at e1 e2
          exact Prod.ext (bytes_ext e1) (bytes_ext e2)
        have hno : t ≠ u → ¬ ts = us := fun hne e => by
          apply hne
          have h1 := HT.out
          rw [e, HU.out] at h1
          exact (Option.some.inj h1).symm
        have HNO := Lib.hid hno; clear hno
        have HBK := Lib.hid hback; clear hback
        by_cases e1 : t.1.toList = u.1.toList
        · by_cases e2 : t.2.toList = u.2.toList
          · have htu := HBK.out e1 e2
            have hnx : ts.take (k + 1) = us.take (k + 1) := by
              rw [List.take_add_one, List.take_add_one, HT.out, HU.out, heq.out, htu]
            have HNX := Lib.hid hnx; clear hnx htu
            go_wp2_with fail
            go_region
            all_goals go_wp2_with fail
            all_goals exact ⟨⟨k + 1, by congr 1, hkn, HNX, hbel.drew⟩, by simp [intOf]; omega⟩
          · have hr := HNO.out (fun e => e2 (by rw [e]))
            have HR := Lib.hid hr; clear hr
            go_wp2_with fail
            go_region
            all_goals go_wp2_with fail
            all_goals go_ret
            all_goals exact ⟨BoolIs.f HR.out, hbel.drew⟩
        · have hr := HNO.out (fun e => e1 (by rw [e]))
          have HR := Lib.hid hr; clear hr
          go_wp2_with fail
          go_region
          all_goals go_wp2_with fail
          all_goals go_ret
          all_goals exact ⟨BoolIs.f HR.out, hbel.drew⟩
      · have hke : k = n := by omega
        have hr : ts = us := by
          have h1 := heq.out
          have h2 := HL.out
          have h3 := HL'.out
          rw [hke, List.take_of_length_le (by omega), List.take_of_length_le (by omega)] at h1
          exact h1
        have HR := Lib.hid hr; clear hr hke
        go_wp2_with fail
        go_ret
        exact ⟨BoolIs.t HR.out, hbel⟩
  · have HR := Lib.hid (show ¬ ts = us from fun e => hn (by rw [← hl, ← hl', e]))
    have hne : ((n : Int) != (n' : Int)) = true := by simp; omega
    clear hl hl'
    go_enter Tryz.func12, Tryz.ntmps12
    go_wp2_with fail
    go_ret
    exact ⟨BoolIs.f HR.out, Below.refl _ _⟩
end Go.Proofs.YtgfgpepdkffhbaaGreatDoor.Kl
