/- What every call finds in memory: the library's table of powers, the program's variables in their shapes; numerals by the library: Itoa, FormatUint, ParseUint, Atoi. -/
import Derived.Test.YtgfgpepdkffhbaaGreatDoorProg
import Derived.Test.YtgfgpepdkffhbaaGreatDoorShelf
import Derived.Test.YtgfgpepdkffhbaaGreatDoorTxt
import Derived.Test.YtgfgpepdkffhbaaGreatDoorMem
import Derived.WalkKit
import Derived.WalkSmall
import Derived.ChangeAgain
import Derived.Lib.AppendIntMem
import Derived.Lib.Walk
import Derived.Lib.ItoaMem
import Derived.BigCall
import Derived.BigGuard
namespace Go.Proofs.YtgfgpepdkffhbaaGreatDoor.Kl
open Go.RowKit Go.Sort
open Go.Lib (itoa)
set_option linter.unusedVariables false
set_option linter.unusedSimpArgs false

/-- what every call finds in memory. -/
structure Wd (w : World) : Prop where
  shaped : w.ShapedOpen Tryz.prog
  tab : Lib.TabIs Tryz.prog w "internal/strconv.uint64pow10" .u64 Lib.pow10Tab

theorem Wd.of_below {B : Nat} {w w' : World} (h : Wd w) (hb : Below B w w') (hB : w.heap.size ≤ B) : Wd w' := by
  refine ⟨h.shaped.keptBut ((hb.mono hB).frame (fun _ => False)) (fun p hp => hp.elim), ?_⟩
  have ht := h.tab
  have hg : Tryz.prog.globalNamed "internal/strconv.uint64pow10" = some 1 := by kernel_rfl
  refine Go.var?_below hb hg ?_ ht
  unfold Lib.TabIs World.var? at ht
  rw [hg, Option.bind_some] at ht
  rcases Nat.lt_or_ge 1 w.heap.size with h1 | h1
  · omega
  · rw [Array.getElem?_eq_none h1] at ht; cases ht
theorem Wd.below {w w' : World} (h : Wd w) (hb : Below w.heap.size w w') : Wd w' := h.of_below hb (Nat.le_refl _)
theorem Wd.alloc {w : World} (h : Wd w) (o : Obj) : Wd (w.alloc o) := h.below ((Below.refl _ _).alloc (Nat.le_refl _) _)
theorem Wd.drew {w : World} (h : Wd w) : Wd w.drew := h.below ((Below.refl _ _).drew)
theorem Wd.drewN {w : World} (h : Wd w) (n : Nat) : Wd (w.drewN n) := h.below (below_drewN (Below.refl _ _) n)

theorem below_grown (w : World) (k : Nat) (os : Array Obj) : Below w.heap.size w (grow (w.drewN k) os) := Lib.below_grow w.heap.size w (Nat.le_refl _) k os

/-- strconv.Itoa. -/
theorem itoa_any (n : Int) (h0 : -9223372036854775808 ≤ n) (h1 : n ≤ 9223372036854775807) (w : World) (hW : Wd w) :
    Calls Tryz.prog 56 #[.int .i64 n] w fun e w' => e = .returned (.string (txt n)) ∧ Below w.heap.size w w' :=
  (Tryz.strconv_Itoa n h0 h1 w hW.tab).mono fun e w' ⟨he, k, os, hw⟩ => ⟨he, by rw [hw]; exact below_grown w k os⟩

/-- digits, at most nine of them. -/
theorem parseUintM_digits (M : Nat) : ∀ (l : List UInt8) (acc : Nat), AllDg l → acc * 10 ^ l.length + dval l ≤ M → M ≤ 18446744073709551615 → Lib.parseUintM M acc l = .ok (acc * 10 ^ l.length + dval l)
  | [], acc, _, _, _ => by simp [Lib.parseUintM, dval]
  | c :: r, acc, h, hM, hm => by
    have hc : IsDg c := h c (by simp)
    have hr : AllDg r := fun x hx => h x (by simp [hx])
    have e : dval (c :: r) = (c.toNat - 48) * 10 ^ r.length + dval r := by
      have := dval_append [c] r
      simpa [dval] using this
    have e2 : acc * 10 ^ (c :: r).length + dval (c :: r) = (acc * 10 + (c.toNat - 48)) * 10 ^ r.length + dval r := by
      rw [e, List.length_cons, Nat.pow_succ, Nat.add_mul, ← Nat.mul_assoc, Nat.mul_right_comm]; omega
    rw [e2] at hM ⊢
    have hp : 1 ≤ 10 ^ r.length := Nat.one_le_pow _ _ (by decide)
    have hle : acc * 10 + (c.toNat - 48) ≤ (acc * 10 + (c.toNat - 48)) * 10 ^ r.length := Nat.le_mul_of_pos_right _ hp
    rw [Lib.parseUintM, if_pos (show 48 ≤ c.toNat ∧ c.toNat ≤ 57 from hc), if_neg (by omega), if_neg (by omega)]
    exact parseUintM_digits M r _ hr hM hm

theorem parseUintB_digits {l : List UInt8} (h : AllDg l) (hne : l ≠ []) (hl : l.length ≤ 18) : Lib.parseUintB 64 l = .ok (dval l) := by
  unfold Lib.parseUintB
  rw [if_neg hne]
  have h1 := dval_lt h
  have h2 : 10 ^ l.length ≤ 10 ^ 18 := Nat.pow_le_pow_right (by decide) hl
  have := parseUintM_digits (2 ^ 64 - 1) l 0 h (by omega) (by decide)
  simpa using this

theorem parseUint_any (s : ByteArray) (hd : AllDg s.data.toList) (h0 : s.data.toList ≠ []) (hl : s.size ≤ 18) (w : World) :
    Calls Tryz.prog 108 #[.string s, .int .i64 10, .int .i64 64] w fun e w' => e = .returned (.tuple #[.int .u64 (dval s.data.toList : Nat), .nilIface]) ∧ Below w.heap.size w w' :=
  (Tryz.strconv_ParseUint_10_at64_ok s (by omega) _ (parseUintB_digits hd h0 (by simpa using hl)) w).mono fun e w' ⟨he, hw⟩ => ⟨he, by
    rcases hw with rfl | rfl
    · exact Below.refl _ _
    · exact Lib.bytesWorld_below _ _ _⟩

theorem parseUint10_digits : ∀ (l : List UInt8) (acc : Nat), AllDg l → acc * 10 ^ l.length + dval l < 18446744073709551616 → Lib.parseUint10 acc l = .ok (acc * 10 ^ l.length + dval l)
  | [], acc, _, _ => by simp [Lib.parseUint10, dval]
  | c :: r, acc, h, hM => by
    have hc : IsDg c := h c (by simp)
    have hr : AllDg r := fun x hx => h x (by simp [hx])
    have e : dval (c :: r) = (c.toNat - 48) * 10 ^ r.length + dval r := by
      have := dval_append [c] r
      simpa [dval] using this
    have e2 : acc * 10 ^ (c :: r).length + dval (c :: r) = (acc * 10 + (c.toNat - 48)) * 10 ^ r.length + dval r := by
      rw [e, List.length_cons, Nat.pow_succ, Nat.add_mul, ← Nat.mul_assoc, Nat.mul_right_comm]; omega
    rw [e2] at hM ⊢
    have hp : 1 ≤ 10 ^ r.length := Nat.one_le_pow _ _ (by decide)
    have hle : acc * 10 + (c.toNat - 48) ≤ (acc * 10 + (c.toNat - 48)) * 10 ^ r.length := Nat.le_mul_of_pos_right _ hp
    rw [Lib.parseUint10, if_pos (show 48 ≤ c.toNat ∧ c.toNat ≤ 57 from hc), if_neg (by omega), if_neg (by omega)]
    exact parseUint10_digits r _ hr hM

theorem atoi_txt (x : Int) (hl : (itoa x).length ≤ 18) : Lib.atoiAll (itoa x) = .ok x := by
  by_cases hx : x < 0
  · have h45 := itoa_neg' hx
    rw [h45] at hl ⊢
    simp only [List.length_cons] at hl
    have h1 := dec_all x.natAbs
    have h2 := dval_lt h1
    have h3 : 10 ^ (Lib.decDigits x.natAbs).length ≤ 10 ^ 17 := Nat.pow_le_pow_right (by decide) (by omega)
    have h4 := parseUint10_digits (Lib.decDigits x.natAbs) 0 h1 (by omega)
    rw [dval_dec] at h2 h4
    simp only [Nat.zero_mul, Nat.zero_add] at h4
    unfold Lib.atoiAll
    simp only [show (45 : UInt8).toNat = 45 from rfl, or_true, if_true]
    unfold Lib.parseMag
    rw [if_neg (dec_ne _), h4]
    simp only [not_true, false_and, if_false, true_and]
    rw [if_neg (by omega)]
    congr 1; omega
  · have hp := itoa_pos' (show 0 ≤ x by omega)
    rw [hp] at hl ⊢
    have h1 := dec_all x.natAbs
    have h2 := dval_lt h1
    have h3 : 10 ^ (Lib.decDigits x.natAbs).length ≤ 10 ^ 18 := Nat.pow_le_pow_right (by decide) hl
    have h4 := parseUint10_digits (Lib.decDigits x.natAbs) 0 h1 (by omega)
    rw [dval_dec] at h2 h4
    simp only [Nat.zero_mul, Nat.zero_add] at h4
    have hne := dec_ne x.natAbs
    unfold Lib.atoiAll
    match hd : Lib.decDigits x.natAbs, hne with
    | c :: r, _ =>
      have hc : IsDg c := h1 c (by rw [hd]; simp)
      unfold IsDg at hc
      simp only
      rw [if_neg (by omega)]
      unfold Lib.parseMag
      rw [← hd, if_neg (dec_ne _), h4]
      simp only
      rw [if_neg (by omega), if_neg (by omega), if_neg (by omega)]
      congr 1; omega

theorem txt_size (x : Int) : (txt x).size = (itoa x).length := by
  unfold txt; simp [ByteArray.size]

/-- strconv.Atoi of a short numeral. -/
theorem atoi_any (x : Int) (hl : (itoa x).length ≤ 18) (w : World) :
    Calls Tryz.prog 107 #[.string (txt x)] w fun e w' => e = .returned (.tuple #[.int .i64 x, .nilIface]) ∧ Below w.heap.size w w' :=
  (Tryz.strconv_Atoi_ok (txt x) (by rw [txt_size]; omega) x (by rw [txt_list]; exact atoi_txt x hl) w).mono fun e w' ⟨he, hw⟩ => ⟨he, by
    rcases hw with rfl | ⟨t, rfl⟩
    · exact Below.refl _ _
    · exact Lib.bytesWorld_below _ _ _⟩

/-- a new row of zeros. -/
theorem holds_zero0 (w : World) (T : TypeId) (nd : Nat) (hs : nd ≤ 24) : Holds (fun (b : UInt8) => Value.int .u8 (b.toNat : Int)) (w.alloc (.cells Lib.zeros24 T)) w.heap.size 0 (Array.replicate nd (0 : UInt8)) := fun j hj => by
  have hj' : j < nd := by simpa using hj
  refine ⟨?_, World.frozen?_alloc_new _ _ _ _⟩
  rw [World.cell?_alloc_new, Lib.zeros24_at _ (by omega), getElem!_pos _ j hj]
  simp

theorem below_putRow (w : World) (o : Obj) (off : Nat) (dk : Array UInt8) (k : Nat) : Below w.heap.size w ((putRow (fun (b : UInt8) => Value.int .u8 (b.toNat : Int)) (w.alloc o) w.heap.size off dk).drewN k) := by
  rw [alloc_eq_grow]
  obtain ⟨os', _, e⟩ := putRow_grow_new (fun (b : UInt8) => Value.int .u8 (b.toNat : Int)) w #[o] w.heap.size off dk (Nat.le_refl _)
  rw [e]
  exact below_grown w k os'

set_option maxHeartbeats 6400000 in
set_option maxRecDepth 100000 in
/-- internal/strconv.FormatUint at base 10. -/
theorem formatUint_in (u : Nat) (hu64 : u < 18446744073709551616) (w : World) (hW : Wd w) :
    Calls Tryz.prog 130 #[.int .u64 (u : Int), .int .i64 10] w fun e w' => e = .returned (.string ⟨(Lib.decDigits u).toArray⟩) ∧ Below w.heap.size w w' := by
  by_cases hs : u < 100
  · go_enter Tryz.func130, Tryz.ntmps130
    go_wp2_with (go_at_call 132; refine (Tryz.internal_strconv_small u hs _).mono ?_; rintro e w' ⟨rfl, rfl⟩)
    go_ret
    exact ⟨rfl, Below.refl _ _⟩
  · have hu1 : 1 ≤ u := by omega
    have hnd20 : Lib.nDigits u ≤ 20 := by have := Lib.numDigits_eq u hu1 hu64; split at this <;> omega
    have hal : Tryz.prog.arrayLen 163 = 24 := by kernel_rfl
    have hae : Tryz.prog.underlying 163 = some (.array 24 5) := Tryz.underlying163
    have hsl1 : ∀ W, (Instr.sliceAt 163 (.pointer (some ⟨w.heap.size, 0, none⟩)) none (some (.int .i64 (Lib.nDigits u : Int))) none).run Tryz.prog W = .ok (.slice (some ⟨w.heap.size, 0, none⟩) (Lib.nDigits u) 24) W := fun W => by
      rw [run_sliceAt_array_h W 163 ⟨w.heap.size, 0, none⟩ (by simp [Program.arrayLen, Program.elem, hae]) .i64 (Lib.nDigits u : Int) (by omega) (by rw [hal]; omega)]
      go_simp
    have hH0 := holds_zero0 w 163 (Lib.nDigits u) (by omega)
    have hfmt := Tryz.internal_strconv_formatBase10 w.heap.size 0 24 u (Array.replicate (Lib.nDigits u) 0) (w.alloc (.cells Lib.zeros24 163)) hH0 (by rw [Array.size_replicate]; exact Lib.lt_pow_nDigits u) hu64 (by rw [Array.size_replicate]; omega)
    rw [Array.size_replicate] at hfmt
    have HH0 := Lib.hid hH0
    clear hH0 hal hae
    have htab := hW.tab
    go_enter Tryz.func130, Tryz.ntmps130
    go_wp2_with (go_at_call 133; refine (Tryz.internal_strconv_numDigits u hu1 hu64 _ (Lib.tabIs_alloc htab _)).mono ?_; rintro e w' ⟨rfl, rfl⟩)
    go_at_call 134
    refine hfmt.mono ?_
    rintro e w' ⟨rfl, k, v', dk, rfl, hF⟩
    have hcv : (convert 95 9 (.slice (some ⟨w.heap.size, 0, none⟩) (Lib.nDigits u) 24)).run Tryz.prog ((putRow (fun (b : UInt8) => Value.int .u8 (b.toNat : Int)) (w.alloc (.cells Lib.zeros24 163)) w.heap.size 0 dk).drewN k) = .ok (.string ⟨(Lib.decDigits u).toArray⟩) ((putRow (fun (b : UInt8) => Value.int .u8 (b.toNat : Int)) (w.alloc (.cells Lib.zeros24 163)) w.heap.size 0 dk).drewN k) := by
      have h := run_convert_bytes_back (P := Tryz.prog) ((putRow (fun (b : UInt8) => Value.int .u8 (b.toNat : Int)) (w.alloc (.cells Lib.zeros24 163)) w.heap.size 0 dk).drewN k) 95 9 5 ⟨w.heap.size, 0, none⟩ 24 (Lib.decDigits u) Tryz.underlying95 Tryz.underlying5 Tryz.underlying9 (fun j hj => by
        rw [Lib.row_is_numeral hF j hj, Lib.add_plain, World.cell?_drewN]
        exact cell?_putRow (fun (b : UInt8) => Value.int .u8 (b.toNat : Int)) _ w.heap.size 0 _ dk HH0.out (by rw [hF.size, Array.size_replicate]) j (by rw [hF.size]; rw [Lib.decDigits_length] at hj; exact hj))
      rw [Lib.decDigits_length] at h
      exact h
    go_wp2
    go_ret
    exact ⟨rfl, below_putRow _ _ _ _ _⟩

/-- strconv.FormatUint at base 10. -/
theorem formatUint_any (u : Nat) (hu64 : u < 18446744073709551616) (w : World) (hW : Wd w) :
    Calls Tryz.prog 112 #[.int .u64 (u : Int), .int .i64 10] w fun e w' => e = .returned (.string ⟨(Lib.decDigits u).toArray⟩) ∧ Below w.heap.size w w' := by
  go_enter Tryz.func112, Tryz.ntmps112
  go_wp2_with (go_at_call 130; refine (formatUint_in u hu64 _ hW).mono ?_; rintro e w' ⟨rfl, hb⟩)
  go_ret
  exact ⟨rfl, hb⟩

end Go.Proofs.YtgfgpepdkffhbaaGreatDoor.Kl
