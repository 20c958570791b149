/- surd: Text. -/
import Derived.Test.YtgfgpepdkffhbaaGreatDoorSurdB
namespace Go.Proofs.YtgfgpepdkffhbaaGreatDoor.Kl
open Go.RowKit Go.Shelf
set_option linter.unusedVariables false
set_option linter.unusedSimpArgs false

/-- a term's text: its sign's, its own. -/
def signT (first : Bool) (q : Rat) : List UInt8 := if q.num < 0 then (if first then [45] else [32, 45, 32]) else (if first then [] else [32, 43, 32])
def absR (q : Rat) : Rat := if q.num < 0 then -q else q
def bodyT (q : Rat) (r : Nat) : List UInt8 := if r = 1 then rtl (absR q) else if rtl (absR q) = [49] then [115, 113, 114, 116, 40] ++ Lib.itoa (r : Int) ++ [41] else rtl (absR q) ++ [32, 115, 113, 114, 116, 40] ++ Lib.itoa (r : Int) ++ [41]
def textTo (l : List (Rat × Nat)) : Nat → List UInt8
  | 0 => []
  | k + 1 => textTo l k ++ (match l[k]? with | some p => signT (k == 0) p.1 ++ bodyT p.1 p.2 | none => [])
theorem textTo_succ {l : List (Rat × Nat)} {k : Nat} {p : Rat × Nat} (h : l[k]? = some p) : textTo l (k + 1) = textTo l k ++ signT (k == 0) p.1 ++ bodyT p.1 p.2 := by
  simp [textTo, h]

theorem stext_nil (A : Option Addr) (c : Nat) (w : World) (hW : Wd w) (h : IsT w w.heap.size A 0 c (tb [])) :
    Calls Tryz.prog 22 #[.slice A 0 c] w fun e w' => e = .returned (.tuple #[.string ⟨#[48]⟩, .int .i64 0]) ∧ Below w.heap.size w w' := by
  have hs : Sound [] := ⟨fun p hp => absurd hp (by simp), fun i j p q _ h _ => by simp at h⟩
  have hc := scheck_any A 0 c [] hs w hW h (by decide)
  go_enter Tryz.func22, Tryz.ntmps22
  go_wp2_with (with_reducible refine Calls.mono hc ?_; rintro e w1 ⟨rfl, hb1⟩)
  go_ret2
  exact ⟨rfl, hb1⟩

theorem rtl_abs {q : Rat} (hq : RS q) : (rtl (absR q)).length ≤ 500 := by
  apply rtl_rs
  unfold absR
  split
  · exact ⟨by rw [show (-q).num = -q.num from rfl, Int.natAbs_neg]; exact hq.1, hq.2⟩
  · exact hq

theorem body_len {q : Rat} {r : Nat} (hq : RS q) (hr : DL (r : Int) 200) : (bodyT q r).length ≤ 1000 := by
  have h1 := rtl_abs hq
  have h2 := hr.itoa
  unfold bodyT
  split
  · omega
  · split
    · simp; omega
    · simp; omega
theorem sign_len (b : Bool) (q : Rat) : (signT b q).length ≤ 3 := by
  unfold signT; split <;> split <;> simp
theorem textTo_len (l : List (Rat × Nat)) (hl : Terms l) (k : Nat) : (textTo l k).length ≤ k * 1003 := by
  induction k with
  | zero => simp [textTo]
  | succ k ih =>
    cases h : l[k]? with
    | none =>
      have : textTo l (k + 1) = textTo l k := by simp [textTo, h]
      rw [this]
      exact Nat.le_trans ih (Nat.mul_le_mul_right _ (Nat.le_succ k))
    | some p =>
      rw [textTo_succ h]
      have h1 := hl p (List.mem_of_getElem? h)
      have h2 := body_len h1.1 h1.2
      have h3 := sign_len (k == 0) p.1
      simp only [List.length_append]
      omega

/-- the state between two writes. -/
structure TSt (w : World) (b x : Nat) (T : List UInt8) (O : Array Value) (W : World) : Prop where
  bld : Bld b b (Lib.byteCells T) W
  box : W.heap[x]? = some (.cells O 45 (0, 0))
  below : Below w.heap.size w W
  bel2 : Below b W W

theorem tst_write {w W W' : World} {b x : Nat} {T : List UInt8} {O : Array Value} {s : ByteArray} (hbx : x ≠ b) (hwb : w.heap.size ≤ b) (h : TSt w b x T O W)
    (h1 : Bld b b (Lib.byteCells T ++ Lib.strCells s) W') (h2 : Below b W W') (h3 : Lib.OthersKept 5 (some b) W W') : TSt w b x (T ++ s.data.toList) O W' :=
  ⟨by rw [← byte_app]; exact h1, h3 _ _ h.box (fun e => hbx (by injection e)) (fun c' fz e' => by injection e' with _ e2; cases e2), h.below.trans (h2.mono hwb), Below.refl _ _⟩

set_option maxRecDepth 100000 in
set_option maxHeartbeats 2000000 in
theorem stext_any (A : Option Addr) (n c : Nat) (l : List (Rat × Nat)) (hl : Sound l) (w : World) (hW : Wd w) (h : IsT w w.heap.size A n c (tb l)) (h1 : 1 ≤ n) (hm : n ≤ 40) :
    Calls Tryz.prog 22 #[.slice A n c] w fun e w' => e = .returned (.tuple #[.string ⟨(textTo l l.length).toArray⟩, .int .i64 0]) ∧ Below w.heap.size w w' := by
  have hc := scheck_any A n c l hl w hW h hm
  have hn0 : ((n : Int) == 0) = false := by simp; omega
  have hd0 : decide ((n : Int) = 0) = false := by simp; omega
  have hln : l.length = n := by have := h.len; rw [tb_length] at this; exact this
  have HLN := Lib.hid hln
  have HS := Lib.hid hl
  obtain ⟨RT, hRT⟩ : ∃ T, textTo l l.length = T := ⟨_, rfl⟩
  rw [hRT]
  have HRT := Lib.hid hRT
  clear hln hl hRT
  go_enter Tryz.func22, Tryz.ntmps22
  go_wp2_with fail
  with_reducible refine Calls.mono hc ?_
  rintro e w1 ⟨rfl, hb1⟩
  have hbld : Bld w1.heap.size w1.heap.size (Lib.byteCells []) (w1.alloc (.cells #[.pointer none, .slice none 0 0] 97)) := Lib.fresh_isBuilder 97 5 w1
  have hbel0 : Below w.heap.size w (w1.alloc (.cells #[.pointer none, .slice none 0 0] 97)) := hb1.alloc hb1.size _
  have hwb : w.heap.size ≤ w1.heap.size := hb1.size
  go_wp2_with fail
  obtain ⟨W0, hW0⟩ : ∃ W, w1.alloc (.cells #[.pointer none, .slice none 0 0] 97) = W := ⟨_, rfl⟩
  rw [hW0] at hbld hbel0 ⊢
  obtain ⟨b, hbb⟩ : ∃ b, w1.heap.size = b := ⟨_, rfl⟩
  rw [hbb] at hbld hwb ⊢
  clear hW0 hbb hb1 hc
  go_loopw [20] (fun v wr => ∃ k : Nat, v = .int .i64 (k : Int) ∧ k ≤ n ∧ Below w.heap.size w wr ∧ Bld b b (Lib.byteCells (textTo l k)) wr) (fun v _ => n - (intOf v).toNat)
  case atStart => exact ⟨0, rfl, Nat.zero_le _, hbel0, hbld⟩
  case round =>
    clear hbld hbel0
    obtain ⟨k, rfl, hk, hbel, hbld⟩ := hrel
    by_cases hkn : k < n
    · obtain ⟨ad, t, rfl, hb, htk, hc1, hc2⟩ := (h.below hbel).at_ hkn
      obtain ⟨p, hp, rfl⟩ := tb_get htk
      have hst := HS.out.1 p (List.mem_of_getElem? hp)
      rw [add_next] at hc2
      have htl := textTo_len l HS.out.terms k
      have htl2 : (textTo l k).length ≤ 50000 := by have : k * 1003 ≤ 40 * 1003 := Nat.mul_le_mul_right _ (by omega); omega
      have htn := textTo_succ hp
      have hbl := body_len hst.1 hst.2.2.1
      obtain ⟨T, hT⟩ : ∃ T, textTo l k = T := ⟨_, rfl⟩
      rw [hT] at htl2 htn hbld
      have HTN := Lib.hid htn
      have hbw : b < wr.heap.size := by obtain ⟨pp, vv, hh⟩ := bld_heap hbld; exact lt_of_block' hh
      have hal : TSt w b wr.heap.size T #[.string (rtxt p.1), .string (txt (p.2 : Int))] (wr.alloc (.cells #[.string (rtxt p.1), .string (txt (p.2 : Int))] 45)) :=
        ⟨bld_kept hbld (World.grownBy_alloc wr _ none) (fun r e => by cases e), heap_alloc_new wr _, hbel.alloc hbel.size _, Below.refl _ _⟩
      have hxb : wr.heap.size ≠ b := by omega
      have hra := rtl_abs hst.1
      have hri := hst.2.2.1.itoa
      have hab := fun w => rabs_any p.1 (by have := rtl_rs hst.1; omega) w
      have habs : (if p.1.num < 0 then -p.1 else p.1) = absR p.1 := rfl
      rw [habs] at hab
      have hsg := fun w => rsign_any p.1 w
      have hbody : bodyT p.1 p.2 = if p.2 = 1 then rtl (absR p.1) else if rtl (absR p.1) = [49] then [115, 113, 114, 116, 40] ++ Lib.itoa (p.2 : Int) ++ [41] else rtl (absR p.1) ++ [32, 115, 113, 114, 116, 40] ++ Lib.itoa (p.2 : Int) ++ [41] := rfl
      have hsign : signT (k == 0) p.1 = if p.1.num < 0 then (if (k == 0) = true then [45] else [32, 45, 32]) else (if (k == 0) = true then [] else [32, 43, 32]) := rfl
      have hone : ((txt (p.2 : Int)).toList == [49]) = decide (p.2 = 1) := by
        rw [txt_is_one]
        by_cases h : p.2 = 1
        · rw [h]; rfl
        · rw [decide_eq_false h, decide_eq_false (by omega)]
      have hs1 : ((rtxt (absR p.1)).toList == [49]) = decide (rtl (absR p.1) = [49]) := by
        rw [ByteArray.toList_eq, rtxt_list]
        by_cases h : rtl (absR p.1) = [49]
        · rw [h]; rfl
        · rw [decide_eq_false h]; simpa using h
      have hrl : (rtxt (absR p.1)).data.toList = rtl (absR p.1) := rtxt_list _
      have hit : (txt (p.2 : Int)).data.toList = Lib.itoa (p.2 : Int) := txt_list _
      obtain ⟨S, hS⟩ : ∃ S, rtl (absR p.1) = S := ⟨_, rfl⟩
      obtain ⟨SB, hSB⟩ : ∃ S, rtxt (absR p.1) = S := ⟨_, rfl⟩
      obtain ⟨I, hI⟩ : ∃ S, Lib.itoa (p.2 : Int) = S := ⟨_, rfl⟩
      obtain ⟨IB, hIB⟩ : ∃ S, txt (p.2 : Int) = S := ⟨_, rfl⟩
      obtain ⟨FB, hFB⟩ : ∃ S, rtxt p.1 = S := ⟨_, rfl⟩
      rw [hS] at hra hbody hs1 hrl
      rw [hI] at hri hbody hit
      rw [hSB] at hab hs1 hrl
      rw [hIB] at hone hit hc2 hal
      rw [hFB] at hab hsg hc1 hal
      have hsz1 : SB.size ≤ 500 := by rw [Lib.size_eq, hrl]; exact hra
      have hsz2 : IB.size ≤ 201 := by rw [Lib.size_eq, hit]; exact hri
      have HRL := Lib.hid hrl
      have HIT := Lib.hid hit
      have HB := Lib.hid hbody
      have HSG := Lib.hid hsign
      obtain ⟨SG, hSG⟩ : ∃ S, signT (k == 0) p.1 = S := ⟨_, rfl⟩
      obtain ⟨BD, hBD⟩ : ∃ S, bodyT p.1 p.2 = S := ⟨_, rfl⟩
      rw [hSG] at HTN HSG
      rw [hBD] at HTN HB hbl
      clear htl htn hbody hsign habs hS hSB hI hIB hFB hrl hit hSG hBD hp htk hT hbld hbel hst
      have hW0 := hW.below hal.below
      have hk1 : k + 1 ≤ n := hkn
      by_cases hneg : p.1.num < 0
      · rw [Int.sign_eq_neg_one_of_neg hneg] at hsg
        have HSG1 := HSG.out
        rw [if_pos hneg] at HSG1
        clear HSG
        rcases Nat.eq_zero_or_pos k with hk0 | hk0
        · subst hk0
          rw [if_pos (by decide)] at HSG1
          rw [Nat.zero_mul, show ad.add 0 = ad by simp [Addr.add]] at hc1 hc2
          have HSG := Lib.hid HSG1
          clear HSG1 hneg
          by_cases hr1 : p.2 = 1
          · rw [decide_eq_true hr1] at hone
            have HB1 := HB.out
            rw [if_pos hr1] at HB1
            clear HB hr1
            have HB := Lib.hid HB1
            clear HB1
            go_wp2_with fail
            have ha := hab (wr.alloc (.cells #[.string FB, .string IB] 45))
            with_reducible refine Calls.mono ha ?_
            rintro e wA ⟨rfl, rfl⟩
            have e1 := (cell2 hal.box).1
            go_wp2_with fail
            have hg := hsg (wr.alloc (.cells #[.string FB, .string IB] 45))
            with_reducible refine Calls.mono hg ?_
            rintro e wA ⟨rfl, rfl⟩
            obtain ⟨WX, hWX⟩ : ∃ W, wr.alloc (.cells #[.string FB, .string IB] 45) = W := ⟨_, rfl⟩
            obtain ⟨x, hx⟩ : ∃ x, wr.heap.size = x := ⟨_, rfl⟩
            have hws : b ≤ WX.heap.size := by rw [← hWX]; simp; omega
            rw [hWX, hx] at hal
            rw [hWX] at hW0
            rw [hx] at hxb
            rw [hWX, hx]
            clear e1 ha hg hab hsg hWX hc1 hc2 hx
            have hp1 := writeString_any b b (Lib.byteCells T) ⟨#[45]⟩ WX hal.bld (by simp [Lib.byteCells, ByteArray.size]; omega) hws
            go_wp2_with fail
            with_reducible refine Calls.mono hp1 ?_
            rintro e WY ⟨rfl, hz1, hz2, hz3⟩
            have hT1 : TSt w b x (T ++ [45]) #[.string FB, .string IB] WY := tst_write hxb hwb hal hz1 hz2 hz3
            have hws1 : b ≤ WY.heap.size := Nat.le_trans hws hz2.size
            have e2 := (cell2 hT1.box).2
            clear hz1 hz2 hz3 hp1
            have hlen : (Lib.byteCells (T ++ [45])).length + (SB : ByteArray).size ≤ 140737488355328 := by
              have e1 := HRL.out
              have e2 := HIT.out
              rw [Lib.size_eq]
              simp [Lib.byteCells, e1, e2]
              omega
            have hp2 := writeString_any b b (Lib.byteCells (T ++ [45])) SB WY hT1.bld hlen hws1
            go_wp2_with fail
            with_reducible refine Calls.mono hp2 ?_
            rintro e WZ ⟨rfl, hz1, hz2, hz3⟩
            have hT2 := tst_write hxb hwb hT1 hz1 hz2 hz3
            have hfin : Bld b b (Lib.byteCells (textTo l (0 + 1))) WZ := by
              have h2 := hT2.bld
              have h3 := HTN.out
              rw [HSG.out] at h3
              rw [h3]
              have h4 : T ++ [45] ++ BD = T ++ [45] ++ (SB : ByteArray).data.toList := by
                rw [HRL.out, ← HB.out]
              rw [h4]; exact h2
            have hbelZ := hT2.below
            clear hz1 hz2 hz3 hp2 hT1 hT2 hlen e2 hal HB HSG HTN
            go_wp2_with fail
            exact ⟨⟨1, rfl, hk1, hbelZ, hfin⟩, by simp [intOf]; omega⟩
          · rw [decide_eq_false hr1] at hone
            have HB1 := HB.out
            rw [if_neg hr1] at HB1
            clear HB hr1
            by_cases hs49 : S = [49]
            · rw [if_pos hs49] at HB1
              rw [decide_eq_true hs49] at hs1
              have HB := Lib.hid HB1
              clear HB1 hs49
              go_wp2_with fail
              have ha := hab (wr.alloc (.cells #[.string FB, .string IB] 45))
              with_reducible refine Calls.mono ha ?_
              rintro e wA ⟨rfl, rfl⟩
              have e1 := (cell2 hal.box).1
              go_wp2_with fail
              have hg := hsg (wr.alloc (.cells #[.string FB, .string IB] 45))
              with_reducible refine Calls.mono hg ?_
              rintro e wA ⟨rfl, rfl⟩
              obtain ⟨WX, hWX⟩ : ∃ W, wr.alloc (.cells #[.string FB, .string IB] 45) = W := ⟨_, rfl⟩
              obtain ⟨x, hx⟩ : ∃ x, wr.heap.size = x := ⟨_, rfl⟩
              have hws : b ≤ WX.heap.size := by rw [← hWX]; simp; omega
              rw [hWX, hx] at hal
              rw [hWX] at hW0
              rw [hx] at hxb
              rw [hWX, hx]
              clear e1 ha hg hab hsg hWX hc1 hc2 hx
              have hp1 := writeString_any b b (Lib.byteCells T) ⟨#[45]⟩ WX hal.bld (by simp [Lib.byteCells, ByteArray.size]; omega) hws
              go_wp2_with fail
              with_reducible refine Calls.mono hp1 ?_
              rintro e WY ⟨rfl, hz1, hz2, hz3⟩
              have hT1 : TSt w b x (T ++ [45]) #[.string FB, .string IB] WY := tst_write hxb hwb hal hz1 hz2 hz3
              have hws1 : b ≤ WY.heap.size := Nat.le_trans hws hz2.size
              have e2 := (cell2 hT1.box).2
              clear hz1 hz2 hz3 hp1
              have hlen : (Lib.byteCells (T ++ [45])).length + ((⟨#[115, 113, 114, 116, 40]⟩ ++ IB ++ ⟨#[41]⟩) : ByteArray).size ≤ 140737488355328 := by
                have e1 := HRL.out
                have e2 := HIT.out
                rw [Lib.size_eq]
                simp [Lib.byteCells, e1, e2]
                omega
              have hp2 := writeString_any b b (Lib.byteCells (T ++ [45])) (⟨#[115, 113, 114, 116, 40]⟩ ++ IB ++ ⟨#[41]⟩) WY hT1.bld hlen hws1
              go_wp2_with fail
              with_reducible refine Calls.mono hp2 ?_
              rintro e WZ ⟨rfl, hz1, hz2, hz3⟩
              have hT2 := tst_write hxb hwb hT1 hz1 hz2 hz3
              have hfin : Bld b b (Lib.byteCells (textTo l (0 + 1))) WZ := by
                have h2 := hT2.bld
                have h3 := HTN.out
                rw [HSG.out] at h3
                rw [h3]
                have h4 : T ++ [45] ++ BD = T ++ [45] ++ ((⟨#[115, 113, 114, 116, 40]⟩ ++ IB ++ ⟨#[41]⟩) : ByteArray).data.toList := by
                  rw [show (⟨#[115, 113, 114, 116, 40]⟩ ++ IB ++ ⟨#[41]⟩ : ByteArray).data.toList = [115, 113, 114, 116, 40] ++ IB.data.toList ++ [41] by simp, HIT.out, ← HB.out]
                rw [h4]; exact h2
              have hbelZ := hT2.below
              clear hz1 hz2 hz3 hp2 hT1 hT2 hlen e2 hal HB HSG HTN
              go_wp2_with fail
              exact ⟨⟨1, rfl, hk1, hbelZ, hfin⟩, by simp [intOf]; omega⟩
            · rw [if_neg hs49] at HB1
              rw [decide_eq_false hs49] at hs1
              have HB := Lib.hid HB1
              clear HB1 hs49
              go_wp2_with fail
              have ha := hab (wr.alloc (.cells #[.string FB, .string IB] 45))
              with_reducible refine Calls.mono ha ?_
              rintro e wA ⟨rfl, rfl⟩
              have e1 := (cell2 hal.box).1
              go_wp2_with fail
              have hg := hsg (wr.alloc (.cells #[.string FB, .string IB] 45))
              with_reducible refine Calls.mono hg ?_
              rintro e wA ⟨rfl, rfl⟩
              obtain ⟨WX, hWX⟩ : ∃ W, wr.alloc (.cells #[.string FB, .string IB] 45) = W := ⟨_, rfl⟩
              obtain ⟨x, hx⟩ : ∃ x, wr.heap.size = x := ⟨_, rfl⟩
              have hws : b ≤ WX.heap.size := by rw [← hWX]; simp; omega
              rw [hWX, hx] at hal
              rw [hWX] at hW0
              rw [hx] at hxb
              rw [hWX, hx]
              clear e1 ha hg hab hsg hWX hc1 hc2 hx
              have hp1 := writeString_any b b (Lib.byteCells T) ⟨#[45]⟩ WX hal.bld (by simp [Lib.byteCells, ByteArray.size]; omega) hws
              go_wp2_with fail
              with_reducible refine Calls.mono hp1 ?_
              rintro e WY ⟨rfl, hz1, hz2, hz3⟩
              have hT1 : TSt w b x (T ++ [45]) #[.string FB, .string IB] WY := tst_write hxb hwb hal hz1 hz2 hz3
              have hws1 : b ≤ WY.heap.size := Nat.le_trans hws hz2.size
              have e2 := (cell2 hT1.box).2
              clear hz1 hz2 hz3 hp1
              have hlen : (Lib.byteCells (T ++ [45])).length + ((SB ++ ⟨#[32, 115, 113, 114, 116, 40]⟩ ++ IB ++ ⟨#[41]⟩) : ByteArray).size ≤ 140737488355328 := by
                have e1 := HRL.out
                have e2 := HIT.out
                rw [Lib.size_eq]
                simp [Lib.byteCells, e1, e2]
                omega
              have hp2 := writeString_any b b (Lib.byteCells (T ++ [45])) (SB ++ ⟨#[32, 115, 113, 114, 116, 40]⟩ ++ IB ++ ⟨#[41]⟩) WY hT1.bld hlen hws1
              go_wp2_with fail
              with_reducible refine Calls.mono hp2 ?_
              rintro e WZ ⟨rfl, hz1, hz2, hz3⟩
              have hT2 := tst_write hxb hwb hT1 hz1 hz2 hz3
              have hfin : Bld b b (Lib.byteCells (textTo l (0 + 1))) WZ := by
                have h2 := hT2.bld
                have h3 := HTN.out
                rw [HSG.out] at h3
                rw [h3]
                have h4 : T ++ [45] ++ BD = T ++ [45] ++ ((SB ++ ⟨#[32, 115, 113, 114, 116, 40]⟩ ++ IB ++ ⟨#[41]⟩) : ByteArray).data.toList := by
                  rw [show (SB ++ ⟨#[32, 115, 113, 114, 116, 40]⟩ ++ IB ++ ⟨#[41]⟩ : ByteArray).data.toList = SB.data.toList ++ [32, 115, 113, 114, 116, 40] ++ IB.data.toList ++ [41] by simp, HIT.out, HRL.out, ← HB.out]
                rw [h4]; exact h2
              have hbelZ := hT2.below
              clear hz1 hz2 hz3 hp2 hT1 hT2 hlen e2 hal HB HSG HTN
              go_wp2_with fail
              exact ⟨⟨1, rfl, hk1, hbelZ, hfin⟩, by simp [intOf]; omega⟩
        · have hkb : ((k : Int) == 0) = false := by simp; omega
          have hkd : decide ((k : Int) = 0) = false := by simp; omega
          have hkg : decide (0 < k) = true := decide_eq_true hk0
          rw [if_neg (by simp; omega)] at HSG1
          have HSG := Lib.hid HSG1
          clear HSG1 hneg
          by_cases hr1 : p.2 = 1
          · rw [decide_eq_true hr1] at hone
            have HB1 := HB.out
            rw [if_pos hr1] at HB1
            clear HB hr1
            have HB := Lib.hid HB1
            clear HB1
            go_wp2_with fail
            have ha := hab (wr.alloc (.cells #[.string FB, .string IB] 45))
            with_reducible refine Calls.mono ha ?_
            rintro e wA ⟨rfl, rfl⟩
            have e1 := (cell2 hal.box).1
            go_wp2_with fail
            have hg := hsg (wr.alloc (.cells #[.string FB, .string IB] 45))
            with_reducible refine Calls.mono hg ?_
            rintro e wA ⟨rfl, rfl⟩
            obtain ⟨WX, hWX⟩ : ∃ W, wr.alloc (.cells #[.string FB, .string IB] 45) = W := ⟨_, rfl⟩
            obtain ⟨x, hx⟩ : ∃ x, wr.heap.size = x := ⟨_, rfl⟩
            have hws : b ≤ WX.heap.size := by rw [← hWX]; simp; omega
            rw [hWX, hx] at hal
            rw [hWX] at hW0
            rw [hx] at hxb
            rw [hWX, hx]
            clear e1 ha hg hab hsg hWX hc1 hc2 hx
            have hp1 := writeString_any b b (Lib.byteCells T) ⟨#[32, 45, 32]⟩ WX hal.bld (by simp [Lib.byteCells, ByteArray.size]; omega) hws
            go_wp2_with fail
            with_reducible refine Calls.mono hp1 ?_
            rintro e WY ⟨rfl, hz1, hz2, hz3⟩
            have hT1 : TSt w b x (T ++ [32, 45, 32]) #[.string FB, .string IB] WY := tst_write hxb hwb hal hz1 hz2 hz3
            have hws1 : b ≤ WY.heap.size := Nat.le_trans hws hz2.size
            have e2 := (cell2 hT1.box).2
            clear hz1 hz2 hz3 hp1
            have hlen : (Lib.byteCells (T ++ [32, 45, 32])).length + (SB : ByteArray).size ≤ 140737488355328 := by
              have e1 := HRL.out
              have e2 := HIT.out
              rw [Lib.size_eq]
              simp [Lib.byteCells, e1, e2]
              omega
            have hp2 := writeString_any b b (Lib.byteCells (T ++ [32, 45, 32])) SB WY hT1.bld hlen hws1
            go_wp2_with fail
            with_reducible refine Calls.mono hp2 ?_
            rintro e WZ ⟨rfl, hz1, hz2, hz3⟩
            have hT2 := tst_write hxb hwb hT1 hz1 hz2 hz3
            have hfin : Bld b b (Lib.byteCells (textTo l (k + 1))) WZ := by
              have h2 := hT2.bld
              have h3 := HTN.out
              rw [HSG.out] at h3
              rw [h3]
              have h4 : T ++ [32, 45, 32] ++ BD = T ++ [32, 45, 32] ++ (SB : ByteArray).data.toList := by
                rw [HRL.out, ← HB.out]
              rw [h4]; exact h2
            have hbelZ := hT2.below
            clear hz1 hz2 hz3 hp2 hT1 hT2 hlen e2 hal HB HSG HTN
            go_wp2_with fail
            exact ⟨⟨k + 1, by congr 1, hk1, hbelZ, hfin⟩, by simp [intOf]; omega⟩
          · rw [decide_eq_false hr1] at hone
            have HB1 := HB.out
            rw [if_neg hr1] at HB1
            clear HB hr1
            by_cases hs49 : S = [49]
            · rw [if_pos hs49] at HB1
              rw [decide_eq_true hs49] at hs1
              have HB := Lib.hid HB1
              clear HB1 hs49
              go_wp2_with fail
              have ha := hab (wr.alloc (.cells #[.string FB, .string IB] 45))
              with_reducible refine Calls.mono ha ?_
              rintro e wA ⟨rfl, rfl⟩
              have e1 := (cell2 hal.box).1
              go_wp2_with fail
              have hg := hsg (wr.alloc (.cells #[.string FB, .string IB] 45))
              with_reducible refine Calls.mono hg ?_
              rintro e wA ⟨rfl, rfl⟩
              obtain ⟨WX, hWX⟩ : ∃ W, wr.alloc (.cells #[.string FB, .string IB] 45) = W := ⟨_, rfl⟩
              obtain ⟨x, hx⟩ : ∃ x, wr.heap.size = x := ⟨_, rfl⟩
              have hws : b ≤ WX.heap.size := by rw [← hWX]; simp; omega
              rw [hWX, hx] at hal
              rw [hWX] at hW0
              rw [hx] at hxb
              rw [hWX, hx]
              clear e1 ha hg hab hsg hWX hc1 hc2 hx
              have hp1 := writeString_any b b (Lib.byteCells T) ⟨#[32, 45, 32]⟩ WX hal.bld (by simp [Lib.byteCells, ByteArray.size]; omega) hws
              go_wp2_with fail
              with_reducible refine Calls.mono hp1 ?_
              rintro e WY ⟨rfl, hz1, hz2, hz3⟩
              have hT1 : TSt w b x (T ++ [32, 45, 32]) #[.string FB, .string IB] WY := tst_write hxb hwb hal hz1 hz2 hz3
              have hws1 : b ≤ WY.heap.size := Nat.le_trans hws hz2.size
              have e2 := (cell2 hT1.box).2
              clear hz1 hz2 hz3 hp1
              have hlen : (Lib.byteCells (T ++ [32, 45, 32])).length + ((⟨#[115, 113, 114, 116, 40]⟩ ++ IB ++ ⟨#[41]⟩) : ByteArray).size ≤ 140737488355328 := by
                have e1 := HRL.out
                have e2 := HIT.out
                rw [Lib.size_eq]
                simp [Lib.byteCells, e1, e2]
                omega
              have hp2 := writeString_any b b (Lib.byteCells (T ++ [32, 45, 32])) (⟨#[115, 113, 114, 116, 40]⟩ ++ IB ++ ⟨#[41]⟩) WY hT1.bld hlen hws1
              go_wp2_with fail
              with_reducible refine Calls.mono hp2 ?_
              rintro e WZ ⟨rfl, hz1, hz2, hz3⟩
              have hT2 := tst_write hxb hwb hT1 hz1 hz2 hz3
              have hfin : Bld b b (Lib.byteCells (textTo l (k + 1))) WZ := by
                have h2 := hT2.bld
                have h3 := HTN.out
                rw [HSG.out] at h3
                rw [h3]
                have h4 : T ++ [32, 45, 32] ++ BD = T ++ [32, 45, 32] ++ ((⟨#[115, 113, 114, 116, 40]⟩ ++ IB ++ ⟨#[41]⟩) : ByteArray).data.toList := by
                  rw [show (⟨#[115, 113, 114, 116, 40]⟩ ++ IB ++ ⟨#[41]⟩ : ByteArray).data.toList = [115, 113, 114, 116, 40] ++ IB.data.toList ++ [41] by simp, HIT.out, ← HB.out]
                rw [h4]; exact h2
              have hbelZ := hT2.below
              clear hz1 hz2 hz3 hp2 hT1 hT2 hlen e2 hal HB HSG HTN
              go_wp2_with fail
              exact ⟨⟨k + 1, by congr 1, hk1, hbelZ, hfin⟩, by simp [intOf]; omega⟩
            · rw [if_neg hs49] at HB1
              rw [decide_eq_false hs49] at hs1
              have HB := Lib.hid HB1
              clear HB1 hs49
              go_wp2_with fail
              have ha := hab (wr.alloc (.cells #[.string FB, .string IB] 45))
              with_reducible refine Calls.mono ha ?_
              rintro e wA ⟨rfl, rfl⟩
              have e1 := (cell2 hal.box).1
              go_wp2_with fail
              have hg := hsg (wr.alloc (.cells #[.string FB, .string IB] 45))
              with_reducible refine Calls.mono hg ?_
              rintro e wA ⟨rfl, rfl⟩
              obtain ⟨WX, hWX⟩ : ∃ W, wr.alloc (.cells #[.string FB, .string IB] 45) = W := ⟨_, rfl⟩
              obtain ⟨x, hx⟩ : ∃ x, wr.heap.size = x := ⟨_, rfl⟩
              have hws : b ≤ WX.heap.size := by rw [← hWX]; simp; omega
              rw [hWX, hx] at hal
              rw [hWX] at hW0
              rw [hx] at hxb
              rw [hWX, hx]
              clear e1 ha hg hab hsg hWX hc1 hc2 hx
              have hp1 := writeString_any b b (Lib.byteCells T) ⟨#[32, 45, 32]⟩ WX hal.bld (by simp [Lib.byteCells, ByteArray.size]; omega) hws
              go_wp2_with fail
              with_reducible refine Calls.mono hp1 ?_
              rintro e WY ⟨rfl, hz1, hz2, hz3⟩
              have hT1 : TSt w b x (T ++ [32, 45, 32]) #[.string FB, .string IB] WY := tst_write hxb hwb hal hz1 hz2 hz3
              have hws1 : b ≤ WY.heap.size := Nat.le_trans hws hz2.size
              have e2 := (cell2 hT1.box).2
              clear hz1 hz2 hz3 hp1
              have hlen : (Lib.byteCells (T ++ [32, 45, 32])).length + ((SB ++ ⟨#[32, 115, 113, 114, 116, 40]⟩ ++ IB ++ ⟨#[41]⟩) : ByteArray).size ≤ 140737488355328 := by
                have e1 := HRL.out
                have e2 := HIT.out
                rw [Lib.size_eq]
                simp [Lib.byteCells, e1, e2]
                omega
              have hp2 := writeString_any b b (Lib.byteCells (T ++ [32, 45, 32])) (SB ++ ⟨#[32, 115, 113, 114, 116, 40]⟩ ++ IB ++ ⟨#[41]⟩) WY hT1.bld hlen hws1
              go_wp2_with fail
              with_reducible refine Calls.mono hp2 ?_
              rintro e WZ ⟨rfl, hz1, hz2, hz3⟩
              have hT2 := tst_write hxb hwb hT1 hz1 hz2 hz3
              have hfin : Bld b b (Lib.byteCells (textTo l (k + 1))) WZ := by
                have h2 := hT2.bld
                have h3 := HTN.out
                rw [HSG.out] at h3
                rw [h3]
                have h4 : T ++ [32, 45, 32] ++ BD = T ++ [32, 45, 32] ++ ((SB ++ ⟨#[32, 115, 113, 114, 116, 40]⟩ ++ IB ++ ⟨#[41]⟩) : ByteArray).data.toList := by
                  rw [show (SB ++ ⟨#[32, 115, 113, 114, 116, 40]⟩ ++ IB ++ ⟨#[41]⟩ : ByteArray).data.toList = SB.data.toList ++ [32, 115, 113, 114, 116, 40] ++ IB.data.toList ++ [41] by simp, HIT.out, HRL.out, ← HB.out]
                rw [h4]; exact h2
              have hbelZ := hT2.below
              clear hz1 hz2 hz3 hp2 hT1 hT2 hlen e2 hal HB HSG HTN
              go_wp2_with fail
              exact ⟨⟨k + 1, by congr 1, hk1, hbelZ, hfin⟩, by simp [intOf]; omega⟩
      · have hsn : ¬ p.1.num.sign < 0 := fun h => hneg (Int.sign_neg_iff.1 h)
        obtain ⟨sg, hsge⟩ : ∃ s, p.1.num.sign = s := ⟨_, rfl⟩
        rw [hsge] at hsn hsg
        have hds : decide (sg < 0) = false := decide_eq_false hsn
        have HSG1 := HSG.out
        rw [if_neg hneg] at HSG1
        clear HSG
        rcases Nat.eq_zero_or_pos k with hk0 | hk0
        · subst hk0
          rw [if_pos (by decide)] at HSG1
          rw [Nat.zero_mul, show ad.add 0 = ad by simp [Addr.add]] at hc1 hc2
          have HSG := Lib.hid HSG1
          clear HSG1 hneg
          by_cases hr1 : p.2 = 1
          · rw [decide_eq_true hr1] at hone
            have HB1 := HB.out
            rw [if_pos hr1] at HB1
            clear HB hr1
            have HB := Lib.hid HB1
            clear HB1
            go_wp2_with fail
            have ha := hab (wr.alloc (.cells #[.string FB, .string IB] 45))
            with_reducible refine Calls.mono ha ?_
            rintro e wA ⟨rfl, rfl⟩
            have e1 := (cell2 hal.box).1
            go_wp2_with fail
            have hg := hsg (wr.alloc (.cells #[.string FB, .string IB] 45))
            with_reducible refine Calls.mono hg ?_
            rintro e wA ⟨rfl, rfl⟩
            obtain ⟨WX, hWX⟩ : ∃ W, wr.alloc (.cells #[.string FB, .string IB] 45) = W := ⟨_, rfl⟩
            obtain ⟨x, hx⟩ : ∃ x, wr.heap.size = x := ⟨_, rfl⟩
            have hws : b ≤ WX.heap.size := by rw [← hWX]; simp; omega
            rw [hWX, hx] at hal
            rw [hWX] at hW0
            rw [hx] at hxb
            rw [hWX, hx]
            clear e1 ha hg hab hsg hWX hc1 hc2 hx
            have hT1 : TSt w b x (T ++ []) #[.string FB, .string IB] WX := by rw [List.append_nil]; exact hal
            have hws1 := hws
            have e2 := (cell2 hT1.box).2
            have hlen : (Lib.byteCells (T ++ [])).length + (SB : ByteArray).size ≤ 140737488355328 := by
              have e1 := HRL.out
              have e2 := HIT.out
              rw [Lib.size_eq]
              simp [Lib.byteCells, e1, e2]
              omega
            have hp2 := writeString_any b b (Lib.byteCells (T ++ [])) SB WX hT1.bld hlen hws1
            go_wp2_with fail
            with_reducible refine Calls.mono hp2 ?_
            rintro e WZ ⟨rfl, hz1, hz2, hz3⟩
            have hT2 := tst_write hxb hwb hT1 hz1 hz2 hz3
            have hfin : Bld b b (Lib.byteCells (textTo l (0 + 1))) WZ := by
              have h2 := hT2.bld
              have h3 := HTN.out
              rw [HSG.out] at h3
              rw [h3]
              have h4 : T ++ [] ++ BD = T ++ [] ++ (SB : ByteArray).data.toList := by
                rw [HRL.out, ← HB.out]
              rw [h4]; exact h2
            have hbelZ := hT2.below
            clear hz1 hz2 hz3 hp2 hT1 hT2 hlen e2 hal HB HSG HTN
            go_wp2_with fail
            exact ⟨⟨1, rfl, hk1, hbelZ, hfin⟩, by simp [intOf]; omega⟩
          · rw [decide_eq_false hr1] at hone
            have HB1 := HB.out
            rw [if_neg hr1] at HB1
            clear HB hr1
            by_cases hs49 : S = [49]
            · rw [if_pos hs49] at HB1
              rw [decide_eq_true hs49] at hs1
              have HB := Lib.hid HB1
              clear HB1 hs49
              go_wp2_with fail
              have ha := hab (wr.alloc (.cells #[.string FB, .string IB] 45))
              with_reducible refine Calls.mono ha ?_
              rintro e wA ⟨rfl, rfl⟩
              have e1 := (cell2 hal.box).1
              go_wp2_with fail
              have hg := hsg (wr.alloc (.cells #[.string FB, .string IB] 45))
              with_reducible refine Calls.mono hg ?_
              rintro e wA ⟨rfl, rfl⟩
              obtain ⟨WX, hWX⟩ : ∃ W, wr.alloc (.cells #[.string FB, .string IB] 45) = W := ⟨_, rfl⟩
              obtain ⟨x, hx⟩ : ∃ x, wr.heap.size = x := ⟨_, rfl⟩
              have hws : b ≤ WX.heap.size := by rw [← hWX]; simp; omega
              rw [hWX, hx] at hal
              rw [hWX] at hW0
              rw [hx] at hxb
              rw [hWX, hx]
              clear e1 ha hg hab hsg hWX hc1 hc2 hx
              have hT1 : TSt w b x (T ++ []) #[.string FB, .string IB] WX := by rw [List.append_nil]; exact hal
              have hws1 := hws
              have e2 := (cell2 hT1.box).2
              have hlen : (Lib.byteCells (T ++ [])).length + ((⟨#[115, 113, 114, 116, 40]⟩ ++ IB ++ ⟨#[41]⟩) : ByteArray).size ≤ 140737488355328 := by
                have e1 := HRL.out
                have e2 := HIT.out
                rw [Lib.size_eq]
                simp [Lib.byteCells, e1, e2]
                omega
              have hp2 := writeString_any b b (Lib.byteCells (T ++ [])) (⟨#[115, 113, 114, 116, 40]⟩ ++ IB ++ ⟨#[41]⟩) WX hT1.bld hlen hws1
              go_wp2_with fail
              with_reducible refine Calls.mono hp2 ?_
              rintro e WZ ⟨rfl, hz1, hz2, hz3⟩
              have hT2 := tst_write hxb hwb hT1 hz1 hz2 hz3
              have hfin : Bld b b (Lib.byteCells (textTo l (0 + 1))) WZ := by
                have h2 := hT2.bld
                have h3 := HTN.out
                rw [HSG.out] at h3
                rw [h3]
                have h4 : T ++ [] ++ BD = T ++ [] ++ ((⟨#[115, 113, 114, 116, 40]⟩ ++ IB ++ ⟨#[41]⟩) : ByteArray).data.toList := by
                  rw [show (⟨#[115, 113, 114, 116, 40]⟩ ++ IB ++ ⟨#[41]⟩ : ByteArray).data.toList = [115, 113, 114, 116, 40] ++ IB.data.toList ++ [41] by simp, HIT.out, ← HB.out]
                rw [h4]; exact h2
              have hbelZ := hT2.below
              clear hz1 hz2 hz3 hp2 hT1 hT2 hlen e2 hal HB HSG HTN
              go_wp2_with fail
              exact ⟨⟨1, rfl, hk1, hbelZ, hfin⟩, by simp [intOf]; omega⟩
            · rw [if_neg hs49] at HB1
              rw [decide_eq_false hs49] at hs1
              have HB := Lib.hid HB1
              clear HB1 hs49
              go_wp2_with fail
              have ha := hab (wr.alloc (.cells #[.string FB, .string IB] 45))
              with_reducible refine Calls.mono ha ?_
              rintro e wA ⟨rfl, rfl⟩
              have e1 := (cell2 hal.box).1
              go_wp2_with fail
              have hg := hsg (wr.alloc (.cells #[.string FB, .string IB] 45))
              with_reducible refine Calls.mono hg ?_
              rintro e wA ⟨rfl, rfl⟩
              obtain ⟨WX, hWX⟩ : ∃ W, wr.alloc (.cells #[.string FB, .string IB] 45) = W := ⟨_, rfl⟩
              obtain ⟨x, hx⟩ : ∃ x, wr.heap.size = x := ⟨_, rfl⟩
              have hws : b ≤ WX.heap.size := by rw [← hWX]; simp; omega
              rw [hWX, hx] at hal
              rw [hWX] at hW0
              rw [hx] at hxb
              rw [hWX, hx]
              clear e1 ha hg hab hsg hWX hc1 hc2 hx
              have hT1 : TSt w b x (T ++ []) #[.string FB, .string IB] WX := by rw [List.append_nil]; exact hal
              have hws1 := hws
              have e2 := (cell2 hT1.box).2
              have hlen : (Lib.byteCells (T ++ [])).length + ((SB ++ ⟨#[32, 115, 113, 114, 116, 40]⟩ ++ IB ++ ⟨#[41]⟩) : ByteArray).size ≤ 140737488355328 := by
                have e1 := HRL.out
                have e2 := HIT.out
                rw [Lib.size_eq]
                simp [Lib.byteCells, e1, e2]
                omega
              have hp2 := writeString_any b b (Lib.byteCells (T ++ [])) (SB ++ ⟨#[32, 115, 113, 114, 116, 40]⟩ ++ IB ++ ⟨#[41]⟩) WX hT1.bld hlen hws1
              go_wp2_with fail
              with_reducible refine Calls.mono hp2 ?_
              rintro e WZ ⟨rfl, hz1, hz2, hz3⟩
              have hT2 := tst_write hxb hwb hT1 hz1 hz2 hz3
              have hfin : Bld b b (Lib.byteCells (textTo l (0 + 1))) WZ := by
                have h2 := hT2.bld
                have h3 := HTN.out
                rw [HSG.out] at h3
                rw [h3]
                have h4 : T ++ [] ++ BD = T ++ [] ++ ((SB ++ ⟨#[32, 115, 113, 114, 116, 40]⟩ ++ IB ++ ⟨#[41]⟩) : ByteArray).data.toList := by
                  rw [show (SB ++ ⟨#[32, 115, 113, 114, 116, 40]⟩ ++ IB ++ ⟨#[41]⟩ : ByteArray).data.toList = SB.data.toList ++ [32, 115, 113, 114, 116, 40] ++ IB.data.toList ++ [41] by simp, HIT.out, HRL.out, ← HB.out]
                rw [h4]; exact h2
              have hbelZ := hT2.below
              clear hz1 hz2 hz3 hp2 hT1 hT2 hlen e2 hal HB HSG HTN
              go_wp2_with fail
              exact ⟨⟨1, rfl, hk1, hbelZ, hfin⟩, by simp [intOf]; omega⟩
        · have hkb : ((k : Int) == 0) = false := by simp; omega
          have hkd : decide ((k : Int) = 0) = false := by simp; omega
          have hkg : decide (0 < k) = true := decide_eq_true hk0
          rw [if_neg (by simp; omega)] at HSG1
          have HSG := Lib.hid HSG1
          clear HSG1 hneg
          by_cases hr1 : p.2 = 1
          · rw [decide_eq_true hr1] at hone
            have HB1 := HB.out
            rw [if_pos hr1] at HB1
            clear HB hr1
            have HB := Lib.hid HB1
            clear HB1
            go_wp2_with fail
            have ha := hab (wr.alloc (.cells #[.string FB, .string IB] 45))
            with_reducible refine Calls.mono ha ?_
            rintro e wA ⟨rfl, rfl⟩
            have e1 := (cell2 hal.box).1
            go_wp2_with fail
            have hg := hsg (wr.alloc (.cells #[.string FB, .string IB] 45))
            with_reducible refine Calls.mono hg ?_
            rintro e wA ⟨rfl, rfl⟩
            obtain ⟨WX, hWX⟩ : ∃ W, wr.alloc (.cells #[.string FB, .string IB] 45) = W := ⟨_, rfl⟩
            obtain ⟨x, hx⟩ : ∃ x, wr.heap.size = x := ⟨_, rfl⟩
            have hws : b ≤ WX.heap.size := by rw [← hWX]; simp; omega
            rw [hWX, hx] at hal
            rw [hWX] at hW0
            rw [hx] at hxb
            rw [hWX, hx]
            clear e1 ha hg hab hsg hWX hc1 hc2 hx
            have hp1 := writeString_any b b (Lib.byteCells T) ⟨#[32, 43, 32]⟩ WX hal.bld (by simp [Lib.byteCells, ByteArray.size]; omega) hws
            go_wp2_with fail
            with_reducible refine Calls.mono hp1 ?_
            rintro e WY ⟨rfl, hz1, hz2, hz3⟩
            have hT1 : TSt w b x (T ++ [32, 43, 32]) #[.string FB, .string IB] WY := tst_write hxb hwb hal hz1 hz2 hz3
            have hws1 : b ≤ WY.heap.size := Nat.le_trans hws hz2.size
            have e2 := (cell2 hT1.box).2
            clear hz1 hz2 hz3 hp1
            have hlen : (Lib.byteCells (T ++ [32, 43, 32])).length + (SB : ByteArray).size ≤ 140737488355328 := by
              have e1 := HRL.out
              have e2 := HIT.out
              rw [Lib.size_eq]
              simp [Lib.byteCells, e1, e2]
              omega
            have hp2 := writeString_any b b (Lib.byteCells (T ++ [32, 43, 32])) SB WY hT1.bld hlen hws1
            go_wp2_with fail
            with_reducible refine Calls.mono hp2 ?_
            rintro e WZ ⟨rfl, hz1, hz2, hz3⟩
            have hT2 := tst_write hxb hwb hT1 hz1 hz2 hz3
            have hfin : Bld b b (Lib.byteCells (textTo l (k + 1))) WZ := by
              have h2 := hT2.bld
              have h3 := HTN.out
              rw [HSG.out] at h3
              rw [h3]
              have h4 : T ++ [32, 43, 32] ++ BD = T ++ [32, 43, 32] ++ (SB : ByteArray).data.toList := by
                rw [HRL.out, ← HB.out]
              rw [h4]; exact h2
            have hbelZ := hT2.below
            clear hz1 hz2 hz3 hp2 hT1 hT2 hlen e2 hal HB HSG HTN
            go_wp2_with fail
            exact ⟨⟨k + 1, by congr 1, hk1, hbelZ, hfin⟩, by simp [intOf]; omega⟩
          · rw [decide_eq_false hr1] at hone
            have HB1 := HB.out
            rw [if_neg hr1] at HB1
            clear HB hr1
            by_cases hs49 : S = [49]
            · rw [if_pos hs49] at HB1
              rw [decide_eq_true hs49] at hs1
              have HB := Lib.hid HB1
              clear HB1 hs49
              go_wp2_with fail
              have ha := hab (wr.alloc (.cells #[.string FB, .string IB] 45))
              with_reducible refine Calls.mono ha ?_
              rintro e wA ⟨rfl, rfl⟩
              have e1 := (cell2 hal.box).1
              go_wp2_with fail
              have hg := hsg (wr.alloc (.cells #[.string FB, .string IB] 45))
              with_reducible refine Calls.mono hg ?_
              rintro e wA ⟨rfl, rfl⟩
              obtain ⟨WX, hWX⟩ : ∃ W, wr.alloc (.cells #[.string FB, .string IB] 45) = W := ⟨_, rfl⟩
              obtain ⟨x, hx⟩ : ∃ x, wr.heap.size = x := ⟨_, rfl⟩
              have hws : b ≤ WX.heap.size := by rw [← hWX]; simp; omega
              rw [hWX, hx] at hal
              rw [hWX] at hW0
              rw [hx] at hxb
              rw [hWX, hx]
              clear e1 ha hg hab hsg hWX hc1 hc2 hx
              have hp1 := writeString_any b b (Lib.byteCells T) ⟨#[32, 43, 32]⟩ WX hal.bld (by simp [Lib.byteCells, ByteArray.size]; omega) hws
              go_wp2_with fail
              with_reducible refine Calls.mono hp1 ?_
              rintro e WY ⟨rfl, hz1, hz2, hz3⟩
              have hT1 : TSt w b x (T ++ [32, 43, 32]) #[.string FB, .string IB] WY := tst_write hxb hwb hal hz1 hz2 hz3
              have hws1 : b ≤ WY.heap.size := Nat.le_trans hws hz2.size
              have e2 := (cell2 hT1.box).2
              clear hz1 hz2 hz3 hp1
              have hlen : (Lib.byteCells (T ++ [32, 43, 32])).length + ((⟨#[115, 113, 114, 116, 40]⟩ ++ IB ++ ⟨#[41]⟩) : ByteArray).size ≤ 140737488355328 := by
                have e1 := HRL.out
                have e2 := HIT.out
                rw [Lib.size_eq]
                simp [Lib.byteCells, e1, e2]
                omega
              have hp2 := writeString_any b b (Lib.byteCells (T ++ [32, 43, 32])) (⟨#[115, 113, 114, 116, 40]⟩ ++ IB ++ ⟨#[41]⟩) WY hT1.bld hlen hws1
              go_wp2_with fail
              with_reducible refine Calls.mono hp2 ?_
              rintro e WZ ⟨rfl, hz1, hz2, hz3⟩
              have hT2 := tst_write hxb hwb hT1 hz1 hz2 hz3
              have hfin : Bld b b (Lib.byteCells (textTo l (k + 1))) WZ := by
                have h2 := hT2.bld
                have h3 := HTN.out
                rw [HSG.out] at h3
                rw [h3]
                have h4 : T ++ [32, 43, 32] ++ BD = T ++ [32, 43, 32] ++ ((⟨#[115, 113, 114, 116, 40]⟩ ++ IB ++ ⟨#[41]⟩) : ByteArray).data.toList := by
                  rw [show (⟨#[115, 113, 114, 116, 40]⟩ ++ IB ++ ⟨#[41]⟩ : ByteArray).data.toList = [115, 113, 114, 116, 40] ++ IB.data.toList ++ [41] by simp, HIT.out, ← HB.out]
                rw [h4]; exact h2
              have hbelZ := hT2.below
              clear hz1 hz2 hz3 hp2 hT1 hT2 hlen e2 hal HB HSG HTN
              go_wp2_with fail
              exact ⟨⟨k + 1, by congr 1, hk1, hbelZ, hfin⟩, by simp [intOf]; omega⟩
            · rw [if_neg hs49] at HB1
              rw [decide_eq_false hs49] at hs1
              have HB := Lib.hid HB1
              clear HB1 hs49
              go_wp2_with fail
              have ha := hab (wr.alloc (.cells #[.string FB, .string IB] 45))
              with_reducible refine Calls.mono ha ?_
              rintro e wA ⟨rfl, rfl⟩
              have e1 := (cell2 hal.box).1
              go_wp2_with fail
              have hg := hsg (wr.alloc (.cells #[.string FB, .string IB] 45))
              with_reducible refine Calls.mono hg ?_
              rintro e wA ⟨rfl, rfl⟩
              obtain ⟨WX, hWX⟩ : ∃ W, wr.alloc (.cells #[.string FB, .string IB] 45) = W := ⟨_, rfl⟩
              obtain ⟨x, hx⟩ : ∃ x, wr.heap.size = x := ⟨_, rfl⟩
              have hws : b ≤ WX.heap.size := by rw [← hWX]; simp; omega
              rw [hWX, hx] at hal
              rw [hWX] at hW0
              rw [hx] at hxb
              rw [hWX, hx]
              clear e1 ha hg hab hsg hWX hc1 hc2 hx
              have hp1 := writeString_any b b (Lib.byteCells T) ⟨#[32, 43, 32]⟩ WX hal.bld (by simp [Lib.byteCells, ByteArray.size]; omega) hws
              go_wp2_with fail
              with_reducible refine Calls.mono hp1 ?_
              rintro e WY ⟨rfl, hz1, hz2, hz3⟩
              have hT1 : TSt w b x (T ++ [32, 43, 32]) #[.string FB, .string IB] WY := tst_write hxb hwb hal hz1 hz2 hz3
              have hws1 : b ≤ WY.heap.size := Nat.le_trans hws hz2.size
              have e2 := (cell2 hT1.box).2
              clear hz1 hz2 hz3 hp1
              have hlen : (Lib.byteCells (T ++ [32, 43, 32])).length + ((SB ++ ⟨#[32, 115, 113, 114, 116, 40]⟩ ++ IB ++ ⟨#[41]⟩) : ByteArray).size ≤ 140737488355328 := by
                have e1 := HRL.out
                have e2 := HIT.out
                rw [Lib.size_eq]
                simp [Lib.byteCells, e1, e2]
                omega
              have hp2 := writeString_any b b (Lib.byteCells (T ++ [32, 43, 32])) (SB ++ ⟨#[32, 115, 113, 114, 116, 40]⟩ ++ IB ++ ⟨#[41]⟩) WY hT1.bld hlen hws1
              go_wp2_with fail
              with_reducible refine Calls.mono hp2 ?_
              rintro e WZ ⟨rfl, hz1, hz2, hz3⟩
              have hT2 := tst_write hxb hwb hT1 hz1 hz2 hz3
              have hfin : Bld b b (Lib.byteCells (textTo l (k + 1))) WZ := by
                have h2 := hT2.bld
                have h3 := HTN.out
                rw [HSG.out] at h3
                rw [h3]
                have h4 : T ++ [32, 43, 32] ++ BD = T ++ [32, 43, 32] ++ ((SB ++ ⟨#[32, 115, 113, 114, 116, 40]⟩ ++ IB ++ ⟨#[41]⟩) : ByteArray).data.toList := by
                  rw [show (SB ++ ⟨#[32, 115, 113, 114, 116, 40]⟩ ++ IB ++ ⟨#[41]⟩ : ByteArray).data.toList = SB.data.toList ++ [32, 115, 113, 114, 116, 40] ++ IB.data.toList ++ [41] by simp, HIT.out, HRL.out, ← HB.out]
                rw [h4]; exact h2
              have hbelZ := hT2.below
              clear hz1 hz2 hz3 hp2 hT1 hT2 hlen e2 hal HB HSG HTN
              go_wp2_with fail
              exact ⟨⟨k + 1, by congr 1, hk1, hbelZ, hfin⟩, by simp [intOf]; omega⟩
    · have hke : k = n := by omega
      subst hke
      have hend : textTo l k = RT := by rw [← HRT.out, HLN.out]
      rw [hend] at hbld
      have hws : b ≤ wr.heap.size := by obtain ⟨pp, vv, hh⟩ := bld_heap hbld; exact Nat.le_of_lt (lt_of_block' hh)
      have hstr := Tryz.Builder_String_any_k b b RT wr (bldF hbld) hws
      clear hend hbld
      go_wp2_with fail
      with_reducible refine Calls.mono hstr ?_
      rintro e wS ⟨rfl, hs1, hs2, hs3⟩
      go_wp2_with fail
      go_ret2
      exact ⟨rfl, hbel.trans (hs2.mono hwb)⟩
end Go.Proofs.YtgfgpepdkffhbaaGreatDoor.Kl
