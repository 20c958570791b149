/- klippelaw03.known: the examples of the chapter. -/
import Derived.Test.YtgfgpepdkffhbaaGreatDoorSurdText
namespace Go.Proofs.YtgfgpepdkffhbaaGreatDoor.Kl
open Go.RowKit Go.Shelf
set_option linter.unusedVariables false
set_option linter.unusedSimpArgs false

theorem dec_two {a b : Nat} (ha : 0 < a) (h : a < 10) (hb : b < 10) : Lib.decDigits (10 * a + b) = [UInt8.ofNat (48 + a), UInt8.ofNat (48 + b)] := by
  rw [dec_big (by omega), show (10 * a + b) / 10 = a by omega, show (10 * a + b) % 10 = b by omega, dec_small h]
  rfl
theorem DL.two {x : Int} (h : x.natAbs < 100) {k : Nat} (hk : 2 ≤ k) : DL x k := DL.mono (DL.of_lt (k := 2) h (by decide)) hk
theorem rtxt_nd {q : Rat} {n : Int} {d : Nat} {l : List UInt8} (hn : q.num = n) (hd : q.den = d) (h : jtl n (d : Int) = l) : rtxt q = ⟨l.toArray⟩ := by
  apply bytes_ext; rw [rtxt_list]; unfold rtl; rw [hn, hd, h]
theorem RS.two {q : Rat} (hn : q.num.natAbs < 100) (hd : q.den < 100) : RS q := ⟨(DL.two (x := q.num) hn (k := 200) (by decide)), by
  have := DL.two (x := (q.den : Int)) (by simpa using hd) (k := 200) (by decide)
  unfold DL at this; rw [Int.natAbs_natCast] at this; exact this⟩
theorem itoa_1 {a : Nat} (h : a < 10) : Lib.itoa (a : Int) = [UInt8.ofNat (48 + a)] := by rw [itoa_nat, dec_small h]
theorem itoa_2 {a b : Nat} (ha : 0 < a) (h : a < 10) (hb : b < 10) : Lib.itoa ((10 * a + b : Nat) : Int) = [UInt8.ofNat (48 + a), UInt8.ofNat (48 + b)] := by rw [itoa_nat, dec_two ha h hb]
theorem jtl_1 {n : Int} : jtl n 1 = Lib.itoa n := by unfold jtl; rw [if_pos rfl]
theorem jtl_1' {n : Int} : jtl n ((1 : Nat) : Int) = Lib.itoa n := jtl_1
theorem jtl_2 {n : Int} {d : Nat} (h : 1 < d) : jtl n (d : Int) = Lib.itoa n ++ 47 :: Lib.itoa (d : Int) := by unfold jtl; rw [if_neg (by omega)]

theorem kt1 : txt 1 = (⟨#[49]⟩ : ByteArray) := txt_one'.symm
theorem kt2 : txt ((2 : Nat) : Int) = (⟨#[50]⟩ : ByteArray) := by apply bytes_ext; rw [txt_list, itoa_1 (by decide)]; rfl
theorem kt5 : txt ((5 : Nat) : Int) = (⟨#[53]⟩ : ByteArray) := by apply bytes_ext; rw [txt_list, itoa_1 (by decide)]; rfl
theorem kt8 : txt ((8 : Nat) : Int) = (⟨#[56]⟩ : ByteArray) := by apply bytes_ext; rw [txt_list, itoa_1 (by decide)]; rfl
theorem kr1 : rtxt 1 = (⟨#[49]⟩ : ByteArray) := rtxt_nd (q := 1) (n := ((1 : Nat) : Int)) (d := 1) rfl rfl (by rw [jtl_1', itoa_1 (by decide)]; rfl)
theorem kr8 : rtxt 8 = (⟨#[56]⟩ : ByteArray) := rtxt_nd (q := 8) (n := ((8 : Nat) : Int)) (d := 1) rfl rfl (by rw [jtl_1', itoa_1 (by decide)]; rfl)
theorem kr99 : rtxt 99 = (⟨#[57, 57]⟩ : ByteArray) := rtxt_nd (q := 99) (n := ((10 * 9 + 9 : Nat) : Int)) (d := 1) rfl rfl (by rw [jtl_1', itoa_2 (by decide) (by decide) (by decide)]; rfl)
theorem krm70 : rtxt (-70) = (⟨#[45, 55, 48]⟩ : ByteArray) := rtxt_nd (q := -70) (n := -((10 * 7 + 0 : Nat) : Int)) (d := 1) rfl rfl (by rw [jtl_1', itoa_negNat (by decide), dec_two (by decide) (by decide) (by decide)]; rfl)
theorem krm1 : rtxt (-1) = (⟨#[45, 49]⟩ : ByteArray) := rtxt_nd (q := -1) (n := -((1 : Nat) : Int)) (d := 1) rfl rfl (by rw [jtl_1', itoa_negNat (by decide), dec_small (by decide)]; rfl)

def khalf : Rat := Rat.divInt 1 2
theorem khalf_num : khalf.num = ((1 : Nat) : Int) := by kernel_rfl
theorem khalf_den : khalf.den = 2 := by kernel_rfl
theorem krhalf : rtxt khalf = (⟨#[49, 47, 50]⟩ : ByteArray) := rtxt_nd khalf_num khalf_den (by rw [jtl_2 (by decide), itoa_1 (by decide), itoa_1 (by decide)]; rfl)
def kq94 : Rat := Rat.divInt 9 4
theorem kq94_num : kq94.num = ((9 : Nat) : Int) := by kernel_rfl
theorem kq94_den : kq94.den = 4 := by kernel_rfl
theorem kr94 : rtxt kq94 = (⟨#[57, 47, 52]⟩ : ByteArray) := rtxt_nd kq94_num kq94_den (by rw [jtl_2 (by decide), itoa_1 (by decide), itoa_1 (by decide)]; rfl)
theorem kr32 : rtxt (Rat.divInt 6 4) = (⟨#[51, 47, 50]⟩ : ByteArray) := rtxt_nd (q := Rat.divInt 6 4) (n := ((3 : Nat) : Int)) (d := 2) (by kernel_rfl) (by kernel_rfl) (by rw [jtl_2 (by decide), itoa_1 (by decide), itoa_1 (by decide)]; rfl)
theorem kr32' : rtxt (Rat.divInt 15 10) = (⟨#[51, 47, 50]⟩ : ByteArray) := rtxt_nd (q := Rat.divInt 15 10) (n := ((3 : Nat) : Int)) (d := 2) (by kernel_rfl) (by kernel_rfl) (by rw [jtl_2 (by decide), itoa_1 (by decide), itoa_1 (by decide)]; rfl)
theorem kr75 : rtxt (Rat.divInt 14 10) = (⟨#[55, 47, 53]⟩ : ByteArray) := rtxt_nd (q := Rat.divInt 14 10) (n := ((7 : Nat) : Int)) (d := 5) (by kernel_rfl) (by kernel_rfl) (by rw [jtl_2 (by decide), itoa_1 (by decide), itoa_1 (by decide)]; rfl)
theorem kr11 : rtxt (Rat.divInt 1 1) = (⟨#[49]⟩ : ByteArray) := by rw [show Rat.divInt 1 1 = 1 by kernel_rfl]; exact kr1

def OneT (e : Ending) (w' : World) (t : ByteArray × ByteArray) : Prop := ∃ A, e = .returned (.tuple #[.slice A 1 1, .int .i64 0]) ∧ IsT w' w'.heap.size A 1 1 [t]

theorem kOf8 (w : World) (hW : Wd w) : Calls Tryz.prog 9 #[.string ⟨#[56]⟩] w fun e w' => OneT e w' (⟨#[49]⟩, ⟨#[56]⟩) ∧ Below w.heap.size w w' := by
  have h := sof_plain 8 8 rfl (RS.two (by decide) (by decide)) (by decide) (by rw [isqrt_unique (n := 8 * (8 : Rat).den) (s := 2) (by decide) (by decide)]; decide) w hW
  rw [kr8] at h
  refine h.mono ?_
  rintro e w' ⟨⟨h1, _⟩, hb⟩
  have h2 := h1 (DL.two (by decide) (by decide))
  rw [show ((8 * (8 : Rat).den : Nat) : Int) = ((8 : Nat) : Int) from rfl, kt8, show Rat.divInt 1 ((8 : Rat).den : Int) = Rat.divInt 1 1 from rfl, kr11] at h2
  exact ⟨h2, hb⟩
theorem kOfHalf (w : World) (hW : Wd w) : Calls Tryz.prog 9 #[.string ⟨#[49, 47, 50]⟩] w fun e w' => OneT e w' (⟨#[49, 47, 50]⟩, ⟨#[50]⟩) ∧ Below w.heap.size w w' := by
  have h := sof_plain khalf 1 khalf_num (RS.two (by rw [khalf_num]; decide) (by rw [khalf_den]; decide)) (by decide) (by rw [khalf_den, isqrt_unique (n := 1 * 2) (s := 1) (by decide) (by decide)]; decide) w hW
  rw [krhalf, khalf_den] at h
  refine h.mono ?_
  rintro e w' ⟨⟨h1, _⟩, hb⟩
  have h2 := h1 (DL.two (by decide) (by decide))
  rw [show ((1 * 2 : Nat) : Int) = ((2 : Nat) : Int) from rfl, kt2, show Rat.divInt 1 ((2 : Nat) : Int) = khalf from rfl, krhalf] at h2
  exact ⟨h2, hb⟩
theorem kOf94 (w : World) (hW : Wd w) : Calls Tryz.prog 9 #[.string ⟨#[57, 47, 52]⟩] w fun e w' => OneT e w' (⟨#[51, 47, 50]⟩, ⟨#[49]⟩) ∧ Below w.heap.size w w' := by
  have hi : isqrt (9 * kq94.den) = 6 := by rw [kq94_den]; exact isqrt_unique (by decide) (by decide)
  have h := sof_square kq94 9 kq94_num (RS.two (by rw [kq94_num]; decide) (by rw [kq94_den]; decide)) (by decide) (by rw [hi, kq94_den]) w hW
  rw [kr94, hi, kq94_den] at h
  refine h.mono ?_
  rintro e w' ⟨h2, hb⟩
  rw [kt1, show Rat.divInt ((6 : Nat) : Int) ((4 : Nat) : Int) = Rat.divInt 6 4 from rfl, kr32] at h2
  exact ⟨h2, hb⟩

theorem sound_two {p q : Rat × Nat} (hp : SoundT p) (hq : SoundT q) (h : p.2 < q.2) (hn : ¬ Sq (p.2 * q.2)) : Sound [p, q] := by
  refine ⟨fun r hr => ?_, fun i j r s hij hi hj => ?_⟩
  · simp only [List.mem_cons, List.not_mem_nil, or_false] at hr
    rcases hr with rfl | rfl <;> assumption
  · match i, j with
    | 0, 1 => cases hi; cases hj; exact ⟨h, hn⟩
    | 0, 0 => omega
    | i + 1, 0 => omega
    | i + 1, 1 => omega
    | _, j + 2 => simp at hj
theorem sound_one {p : Rat × Nat} (hp : SoundT p) : Sound [p] := by
  refine ⟨fun r hr => ?_, fun i j r s hij hi hj => ?_⟩
  · simp only [List.mem_cons, List.not_mem_nil, or_false] at hr
    rw [hr]; exact hp
  · match i, j with
    | 0, 0 => omega
    | i + 1, 0 => omega
    | _, j + 1 => simp at hj
theorem sq_two : ¬ Sq 2 := by unfold Sq; rw [isqrt_unique (n := 2) (s := 1) (by decide) (by decide)]; decide
theorem sq_five : ¬ Sq 5 := by unfold Sq; rw [isqrt_unique (n := 5) (s := 2) (by decide) (by decide)]; decide

def kl1 : List (Rat × Nat) := [(99, 1), (-70, 2)]
theorem kl1_tb : tb kl1 = [(⟨#[57, 57]⟩, ⟨#[49]⟩), (⟨#[45, 55, 48]⟩, ⟨#[50]⟩)] := by
  show [(rtxt 99, txt ((1 : Nat) : Int)), (rtxt (-70), txt ((2 : Nat) : Int))] = _
  rw [kr99, krm70, kt2, show ((1 : Nat) : Int) = 1 from rfl, kt1]
theorem kl1_sound : Sound kl1 := sound_two (p := (99, 1)) (q := (-70, 2)) ⟨RS.two (by decide) (by decide), by decide, DL.two (by decide) (by decide), by decide, fun _ => rfl⟩ ⟨RS.two (by decide) (by decide), by decide, DL.two (by decide) (by decide), by decide, fun h => absurd h sq_two⟩ (by decide) sq_two

theorem ksq1 : isqrt (1 * 4 ^ 16) = 65536 := isqrt_unique (by decide) (by decide)
theorem ksq2 : isqrt (2 * 4 ^ 16) = 92681 := isqrt_unique (by decide) (by decide)
theorem kuA1 : upA (4 ^ 16) 1 = 65536 := ksq1
theorem kuB1 : upB (4 ^ 16) 1 = 65536 := by unfold upB; rw [ksq1, if_pos (by decide)]
theorem kuA2 : upA (4 ^ 16) 2 = 92681 := ksq2
theorem kuB2 : upB (4 ^ 16) 2 = 92682 := by unfold upB; rw [ksq2, if_neg (by decide)]
theorem kden1 : denL kl1 = 1 := by kernel_rfl
theorem kenc99 : encK 1 99 = 99 := by kernel_rfl
theorem kencm70 : encK 1 (-70) = -70 := by kernel_rfl
theorem klow1 : lowAt kl1 16 = 324 := by
  have h : ∀ D S, lowL D S kl1 = 0 + encLow D S (99, 1) + encLow D S (-70, 2) := fun _ _ => rfl
  unfold lowAt; rw [kden1, h]
  unfold encLow
  simp only [kenc99, kencm70]
  rw [if_neg (by decide), if_pos (by decide), kuA1, kuB2]; decide
theorem khigh1 : highAt kl1 16 = 394 := by
  have h : ∀ D S, highL D S kl1 = 0 + encHigh D S (99, 1) + encHigh D S (-70, 2) := fun _ _ => rfl
  unfold highAt; rw [kden1, h]
  unfold encHigh
  simp only [kenc99, kencm70]
  rw [if_neg (by decide), if_pos (by decide), kuB1, kuA2]; decide

theorem kSign (A : Option Addr) (c : Nat) (w : World) (hW : Wd w) (h : IsT w w.heap.size A 2 c [(⟨#[57, 57]⟩, ⟨#[49]⟩), (⟨#[45, 55, 48]⟩, ⟨#[50]⟩)]) :
    Calls Tryz.prog 26 #[.slice A 2 c] w fun e w' => e = .returned (.tuple #[.int .i64 1, .int .i64 0]) ∧ Below w.heap.size w w' := by
  rw [← kl1_tb] at h
  refine (sSign_any A 2 c kl1 kl1_sound 0 (by decide) (Or.inl (by show 0 < lowAt kl1 16; rw [klow1]; decide)) w hW h (by decide) (by decide)).mono ?_
  rintro e w' ⟨⟨s, rfl, j, hj, hs⟩, hb⟩
  have : j = 0 := by omega
  subst this
  rcases hs with ⟨rfl, _⟩ | ⟨_, h2⟩
  · exact ⟨rfl, hb⟩
  · have h3 : highAt kl1 16 < 0 := h2
    rw [khigh1] at h3; omega

def kl2 : List (Rat × Nat) := [(khalf, 1), (-1, 5)]
theorem kl2_tb : tb kl2 = [(⟨#[49, 47, 50]⟩, ⟨#[49]⟩), (⟨#[45, 49]⟩, ⟨#[53]⟩)] := by
  show [(rtxt khalf, txt ((1 : Nat) : Int)), (rtxt (-1), txt ((5 : Nat) : Int))] = _
  rw [krhalf, krm1, kt5, show ((1 : Nat) : Int) = 1 from rfl, kt1]
theorem kl2_sound : Sound kl2 := sound_two (p := (khalf, 1)) (q := (-1, 5)) ⟨RS.two (by rw [khalf_num]; decide) (by rw [khalf_den]; decide), by rw [khalf_num]; decide, DL.two (by decide) (by decide), by decide, fun _ => rfl⟩ ⟨RS.two (by decide) (by decide), by decide, DL.two (by decide) (by decide), by decide, fun h => absurd h sq_five⟩ (by decide) sq_five
theorem krl {q : Rat} {l : List UInt8} (h : rtxt q = ⟨l.toArray⟩) : rtl q = l := by rw [← rtxt_list, h]
theorem ktext : textTo kl2 kl2.length = [49, 47, 50, 32, 45, 32, 115, 113, 114, 116, 40, 53, 41] := by
  show textTo kl2 2 = _
  rw [textTo_succ (k := 1) (p := (-1, 5)) rfl, textTo_succ (k := 0) (p := (khalf, 1)) rfl]
  have h1 : rtl khalf = [49, 47, 50] := krl krhalf
  have h2 : rtl 1 = [49] := krl kr1
  have a1 : absR khalf = khalf := by unfold absR; rw [khalf_num, if_neg (by decide)]
  have a2 : absR (-1) = 1 := by kernel_rfl
  have s1 : signT (0 == 0) khalf = [] := by unfold signT; rw [khalf_num, if_neg (by decide)]; rfl
  have s2 : signT (1 == 0) (-1) = [32, 45, 32] := by kernel_rfl
  have b1 : bodyT khalf 1 = [49, 47, 50] := by unfold bodyT; rw [if_pos rfl, a1, h1]
  have b2 : bodyT (-1) 5 = [115, 113, 114, 116, 40, 53, 41] := by unfold bodyT; rw [if_neg (by decide), a2, h2, if_pos rfl, itoa_1 (by decide)]; rfl
  simp only [s1, s2, b1, b2]
  rfl
theorem kText (A : Option Addr) (c : Nat) (w : World) (hW : Wd w) (h : IsT w w.heap.size A 2 c [(⟨#[49, 47, 50]⟩, ⟨#[49]⟩), (⟨#[45, 49]⟩, ⟨#[53]⟩)]) :
    Calls Tryz.prog 22 #[.slice A 2 c] w fun e w' => e = .returned (.tuple #[.string ⟨#[49, 47, 50, 32, 45, 32, 115, 113, 114, 116, 40, 53, 41]⟩, .int .i64 0]) ∧ Below w.heap.size w w' := by
  rw [← kl2_tb] at h
  have := stext_any A 2 c kl2 kl2_sound w hW h (by decide) (by decide)
  rw [ktext] at this
  exact this

def kl3 : List (Rat × Nat) := [(1, 2)]
theorem kl3_tb : tb kl3 = [(⟨#[49]⟩, ⟨#[50]⟩)] := by
  show [(rtxt 1, txt ((2 : Nat) : Int))] = _
  rw [kr1, kt2]
theorem kl3_sound : Sound kl3 := sound_one (p := (1, 2)) ⟨RS.two (by decide) (by decide), by decide, DL.two (by decide) (by decide), by decide, fun h => absurd h sq_two⟩
theorem kden3 : denL kl3 = 1 := by kernel_rfl
theorem kenc1 : encK 1 1 = 1 := by kernel_rfl
theorem klow3 : lowAt kl3 16 = 92681 := by
  have h : ∀ D S, lowL D S kl3 = 0 + encLow D S (1, 2) := fun _ _ => rfl
  unfold lowAt; rw [kden3, h]
  unfold encLow
  simp only [kenc1]
  rw [if_neg (by decide), kuA2]; decide
theorem khigh3 : highAt kl3 16 = 92682 := by
  have h : ∀ D S, highL D S kl3 = 0 + encHigh D S (1, 2) := fun _ _ => rfl
  unfold highAt; rw [kden3, h]
  unfold encHigh
  simp only [kenc1]
  rw [if_neg (by decide), kuB2]; decide
theorem kflo : floorLo kl3 10 16 = 14 := by unfold floorLo; rw [klow3, kden3]; decide
theorem kfhi : floorHi kl3 10 16 = 14 := by unfold floorHi; rw [khigh3, kden3]; decide

theorem kBounds (A : Option Addr) (c : Nat) (w : World) (hW : Wd w) (h : IsT w w.heap.size A 1 c [(⟨#[49]⟩, ⟨#[50]⟩)]) :
    Calls Tryz.prog 17 #[.slice A 1 c, .int .i64 10] w fun e w' => e = .returned (.tuple #[.string ⟨#[55, 47, 53]⟩, .string ⟨#[51, 47, 50]⟩, .int .i64 0]) ∧ Below w.heap.size w w' := by
  rw [← kl3_tb] at h
  have g := sbounds_in A 1 c (tb kl3) ⟨#[]⟩ false false (fun z => z = 14) 10 (by decide) (by decide)
    (fun w hW h => by
      have := srat_one A c 1 2 kl3_sound w hW h
      rw [if_neg (by decide)] at this
      exact this)
    (fun w hW h => by
      refine (sfloor_irr A 1 c ⟨#[]⟩ kl3 kl3_sound.terms 10 (DL.two (by decide) (by decide)) 0 (by decide) (by show floorLo kl3 10 16 = floorHi kl3 10 16; rw [kflo, kfhi]) w hW h (by decide)).mono ?_
      rintro e w' ⟨⟨z, rfl, j, hj, h1, h2⟩, hb⟩
      have : j = 0 := by omega
      subst this
      have h3 : floorLo kl3 10 16 = z := h1
      rw [kflo] at h3
      exact ⟨⟨z, rfl, h3.symm⟩, hb⟩)
    (fun z hz => by
      subst hz
      exact ⟨RS.divInt (DL.two (by decide) (by decide)) (DL.two (by decide) (by decide)) (by decide), RS.divInt (DL.two (by decide) (by decide)) (DL.two (by decide) (by decide)) (by decide), DL.two (by decide) (by decide)⟩)
    w hW h
  refine g.mono ?_
  rintro e w' ⟨⟨z, rfl, rfl⟩, hb⟩
  refine ⟨?_, hb⟩
  rw [kr75, show (if false = true then (14 : Int) else 14 + 1) = 15 from rfl, kr32']

theorem lit_new (w : World) (ts : List (ByteArray × ByteArray)) (n : Nat) (hn : ts.length = n) (T : TypeId) (vs : Array Value) (hv : (tsv ts).toArray = vs) : Below w.heap.size w (w.alloc (.cells vs T)) ∧ IsT (w.alloc (.cells vs T)) (w.alloc (.cells vs T)).heap.size (some ⟨w.heap.size, 0, none⟩) n n ts := by
  subst hv
  exact ⟨(Below.refl _ _).alloc (Nat.le_refl _) _, IsT.of_block (ts := ts) (heap_alloc_new w _) hn⟩
theorem kSame (A A' : Option Addr) (c c' : Nat) (t : ByteArray × ByteArray) (w : World) (h : IsT w w.heap.size A 1 c [t]) (h' : IsT w w.heap.size A' 1 c' [t]) :
    Calls Tryz.prog 12 #[.slice A 1 c, .slice A' 1 c'] w fun e w' => e = .returned (.bool true) ∧ Below w.heap.size w w' := by
  refine (same_any A A' 1 1 c c' [t] [t] w h h' (by decide) (by decide)).mono ?_
  rintro e w' ⟨h1, h2⟩
  exact ⟨h1.yes rfl, h2⟩

set_option maxRecDepth 100000 in
theorem known_any (w : World) (hW : Wd w) : Calls Tryz.prog 8 #[] w fun e w' => e = .returned (.bool true) ∧ Below w.heap.size w w' := by
  have g1 := kOf8 w hW
  go_enter Tryz.func8, Tryz.ntmps8
  go_wp2_with fail
  with_reducible refine Calls.mono g1 ?_
  rintro e w1 ⟨⟨A1, rfl, t1⟩, hBw1⟩
  have g2 := kOfHalf w1 (hW.below hBw1)
  clear g1
  go_wp2_with fail
  with_reducible refine Calls.mono g2 ?_
  rintro e w2 ⟨⟨A2, rfl, t2⟩, hb⟩
  have hBw2 := hBw1.trans (hb.mono hBw1.size)
  replace t1 := t1.to hb (Nat.le_refl _)
  have g3 := kOf94 w2 (hW.below hBw2)
  clear g2 hb hBw1
  go_wp2_with fail
  with_reducible refine Calls.mono g3 ?_
  rintro e w3 ⟨⟨A3, rfl, t3⟩, hb⟩
  have hBw3 := hBw2.trans (hb.mono hBw2.size)
  replace t1 := t1.to hb (Nat.le_refl _)
  replace t2 := t2.to hb (Nat.le_refl _)
  clear g3 hb hBw2
  go_wp2_with fail
  obtain ⟨hb, q1⟩ := lit_new w3 [(⟨#[57, 57]⟩, ⟨#[49]⟩), (⟨#[45, 55, 48]⟩, ⟨#[50]⟩)] 2 rfl 45 #[.string ⟨#[57, 57]⟩, .string ⟨#[49]⟩, .string ⟨#[45, 55, 48]⟩, .string ⟨#[50]⟩] rfl
  obtain ⟨w4, hX⟩ : ∃ W, w3.alloc (.cells #[.string ⟨#[57, 57]⟩, .string ⟨#[49]⟩, .string ⟨#[45, 55, 48]⟩, .string ⟨#[50]⟩] 45) = W := ⟨_, rfl⟩
  rw [hX] at hb q1 ⊢
  have hBw4 := hBw3.trans (hb.mono hBw3.size)
  replace t1 := t1.to hb (Nat.le_refl _)
  replace t2 := t2.to hb (Nat.le_refl _)
  replace t3 := t3.to hb (Nat.le_refl _)
  clear hX hb
  have gg := kSign _ _ w4 (hW.below hBw4) q1
  with_reducible refine Calls.mono gg ?_
  rintro e w5 ⟨rfl, hb⟩
  have hBw5 := hBw4.trans (hb.mono hBw4.size)
  replace t1 := t1.to hb (Nat.le_refl _)
  replace t2 := t2.to hb (Nat.le_refl _)
  replace t3 := t3.to hb (Nat.le_refl _)
  clear gg hb
  go_wp2_with fail
  obtain ⟨hb, q2⟩ := lit_new w5 [(⟨#[49, 47, 50]⟩, ⟨#[49]⟩), (⟨#[45, 49]⟩, ⟨#[53]⟩)] 2 rfl 45 #[.string ⟨#[49, 47, 50]⟩, .string ⟨#[49]⟩, .string ⟨#[45, 49]⟩, .string ⟨#[53]⟩] rfl
  obtain ⟨w6, hX⟩ : ∃ W, w5.alloc (.cells #[.string ⟨#[49, 47, 50]⟩, .string ⟨#[49]⟩, .string ⟨#[45, 49]⟩, .string ⟨#[53]⟩] 45) = W := ⟨_, rfl⟩
  rw [hX] at hb q2 ⊢
  have hBw6 := hBw5.trans (hb.mono hBw5.size)
  replace t1 := t1.to hb (Nat.le_refl _)
  replace t2 := t2.to hb (Nat.le_refl _)
  replace t3 := t3.to hb (Nat.le_refl _)
  clear hX hb
  have gg := kText _ _ w6 (hW.below hBw6) q2
  with_reducible refine Calls.mono gg ?_
  rintro e w7 ⟨rfl, hb⟩
  have hBw7 := hBw6.trans (hb.mono hBw6.size)
  replace t1 := t1.to hb (Nat.le_refl _)
  replace t2 := t2.to hb (Nat.le_refl _)
  replace t3 := t3.to hb (Nat.le_refl _)
  clear gg hb
  go_wp2_with fail
  obtain ⟨hb, q3⟩ := lit_new w7 [(⟨#[49]⟩, ⟨#[50]⟩)] 1 rfl 45 #[.string ⟨#[49]⟩, .string ⟨#[50]⟩] rfl
  obtain ⟨w8, hX⟩ : ∃ W, w7.alloc (.cells #[.string ⟨#[49]⟩, .string ⟨#[50]⟩] 45) = W := ⟨_, rfl⟩
  rw [hX] at hb q3 ⊢
  have hBw8 := hBw7.trans (hb.mono hBw7.size)
  replace t1 := t1.to hb (Nat.le_refl _)
  replace t2 := t2.to hb (Nat.le_refl _)
  replace t3 := t3.to hb (Nat.le_refl _)
  clear hX hb
  have gg := kBounds _ _ w8 (hW.below hBw8) q3
  with_reducible refine Calls.mono gg ?_
  rintro e w9 ⟨rfl, hb⟩
  have hBw9 := hBw8.trans (hb.mono hBw8.size)
  replace t1 := t1.to hb (Nat.le_refl _)
  replace t2 := t2.to hb (Nat.le_refl _)
  replace t3 := t3.to hb (Nat.le_refl _)
  clear gg hb
  go_wp2_with fail
  have gg := plain_any _ 1 1 _ w9 t1 (by decide)
  with_reducible refine Calls.mono gg ?_
  rintro e w10 ⟨⟨A4, c4, rfl, p0⟩, hb⟩
  have hBw10 := hBw9.trans (hb.mono hBw9.size)
  replace t2 := t2.to hb (Nat.le_refl _)
  replace t3 := t3.to hb (Nat.le_refl _)
  clear gg hb
  go_wp2_with fail
  obtain ⟨hb, q4⟩ := lit_new w10 [(⟨#[49]⟩, ⟨#[56]⟩)] 1 rfl 39 #[.string ⟨#[49]⟩, .string ⟨#[56]⟩] rfl
  obtain ⟨w11, hX⟩ : ∃ W, w10.alloc (.cells #[.string ⟨#[49]⟩, .string ⟨#[56]⟩] 39) = W := ⟨_, rfl⟩
  rw [hX] at hb q4 ⊢
  have hBw11 := hBw10.trans (hb.mono hBw10.size)
  replace t2 := t2.to hb (Nat.le_refl _)
  replace t3 := t3.to hb (Nat.le_refl _)
  replace p0 := p0.to hb (Nat.le_refl _)
  clear hX hb
  have gg := kSame _ _ _ _ _ w11 p0 q4
  with_reducible refine Calls.mono gg ?_
  rintro e w12 ⟨rfl, hb⟩
  have hBw12 := hBw11.trans (hb.mono hBw11.size)
  replace t2 := t2.to hb (Nat.le_refl _)
  replace t3 := t3.to hb (Nat.le_refl _)
  clear gg hb
  go_wp2_with fail
  have gg := plain_any _ 1 1 _ w12 t2 (by decide)
  with_reducible refine Calls.mono gg ?_
  rintro e w13 ⟨⟨A5, c5, rfl, p1⟩, hb⟩
  have hBw13 := hBw12.trans (hb.mono hBw12.size)
  replace t3 := t3.to hb (Nat.le_refl _)
  clear gg hb
  go_wp2_with fail
  obtain ⟨hb, q5⟩ := lit_new w13 [(⟨#[49, 47, 50]⟩, ⟨#[50]⟩)] 1 rfl 39 #[.string ⟨#[49, 47, 50]⟩, .string ⟨#[50]⟩] rfl
  obtain ⟨w14, hX⟩ : ∃ W, w13.alloc (.cells #[.string ⟨#[49, 47, 50]⟩, .string ⟨#[50]⟩] 39) = W := ⟨_, rfl⟩
  rw [hX] at hb q5 ⊢
  have hBw14 := hBw13.trans (hb.mono hBw13.size)
  replace t3 := t3.to hb (Nat.le_refl _)
  replace p1 := p1.to hb (Nat.le_refl _)
  clear hX hb
  have gg := kSame _ _ _ _ _ w14 p1 q5
  with_reducible refine Calls.mono gg ?_
  rintro e w15 ⟨rfl, hb⟩
  have hBw15 := hBw14.trans (hb.mono hBw14.size)
  replace t3 := t3.to hb (Nat.le_refl _)
  clear gg hb
  go_wp2_with fail
  have gg := plain_any _ 1 1 _ w15 t3 (by decide)
  with_reducible refine Calls.mono gg ?_
  rintro e w16 ⟨⟨A6, c6, rfl, p2⟩, hb⟩
  have hBw16 := hBw15.trans (hb.mono hBw15.size)
  clear gg hb
  go_wp2_with fail
  obtain ⟨hb, q6⟩ := lit_new w16 [(⟨#[51, 47, 50]⟩, ⟨#[49]⟩)] 1 rfl 39 #[.string ⟨#[51, 47, 50]⟩, .string ⟨#[49]⟩] rfl
  obtain ⟨w17, hX⟩ : ∃ W, w16.alloc (.cells #[.string ⟨#[51, 47, 50]⟩, .string ⟨#[49]⟩] 39) = W := ⟨_, rfl⟩
  rw [hX] at hb q6 ⊢
  have hBw17 := hBw16.trans (hb.mono hBw16.size)
  replace p2 := p2.to hb (Nat.le_refl _)
  clear hX hb
  have gg := kSame _ _ _ _ _ w17 p2 q6
  with_reducible refine Calls.mono gg ?_
  rintro e w18 ⟨rfl, hb⟩
  have hBw18 := hBw17.trans (hb.mono hBw17.size)
  clear gg hb
  go_wp2_with fail
  go_ret
  exact ⟨rfl, hBw18⟩
end Go.Proofs.YtgfgpepdkffhbaaGreatDoor.Kl
