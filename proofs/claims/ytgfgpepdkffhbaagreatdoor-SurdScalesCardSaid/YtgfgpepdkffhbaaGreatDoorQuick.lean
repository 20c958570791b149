/- integer.quick, Of: small texts as ints. -/
import Derived.Test.YtgfgpepdkffhbaaGreatDoorBase
import Derived.Test.YtgfgpepdkffhbaaGreatDoorClose
namespace Go.Proofs.YtgfgpepdkffhbaaGreatDoor.Kl
open Go.RowKit Go.Shelf
set_option linter.unusedVariables false
set_option linter.unusedSimpArgs false

/-- a text of at most so many bytes is read as an int. -/
theorem quick_yes (x : Int) (m : Nat) (hm : m ≤ 18) (hl : (Lib.itoa x).length ≤ m) (w : World) :
    Calls Tryz.prog 66 #[.string (txt x), .int .i64 (m : Int)] w fun e w' => e = .returned (.tuple #[.int .i64 x, .bool true]) ∧ Below w.heap.size w w' := by
  have hsz : (txt x).size = (Lib.itoa x).length := by simp [txt, ByteArray.size]
  have hle : ¬ m < (Lib.itoa x).length := by omega
  have hd : decide (m < (txt x).size) = false := by simp; omega
  have hd2 : decide ((m : Int) < ((txt x).size : Int)) = false := by simp; omega
  go_enter Tryz.func66, Tryz.ntmps66
  go_wp2_with (go_at_call 107; refine (atoi_any x (by omega) w).mono ?_; rintro e w1 ⟨rfl, hb⟩)
  go_region
  go_wp2
  go_ret2
  exact ⟨rfl, hb.drew⟩

theorem quick_no (x : Int) (m : Nat) (hm : m ≤ 18) (hl : m < (Lib.itoa x).length) (w : World) :
    Calls Tryz.prog 66 #[.string (txt x), .int .i64 (m : Int)] w fun e w' => e = .returned (.tuple #[.int .i64 0, .bool false]) ∧ Below w.heap.size w w' := by
  have hsz : (txt x).size = (Lib.itoa x).length := by simp [txt, ByteArray.size]
  have hd : decide (m < (txt x).size) = true := by simp; omega
  have hlt : (m : Int) < ((txt x).size : Int) := by omega
  go_enter Tryz.func66, Tryz.ntmps66
  go_wp2
  go_ret2
  exact ⟨rfl, Below.refl _ _⟩

/-- Of. -/
theorem of_any (x : Int) (h0 : -9223372036854775808 ≤ x) (h1 : x ≤ 9223372036854775807) (w : World) (hW : Wd w) :
    Calls Tryz.prog 43 #[.int .i64 x] w fun e w' => e = .returned (.string (txt x)) ∧ Below w.heap.size w w' := by
  go_enter Tryz.func43, Tryz.ntmps43
  go_wp2_with (refine (itoa_any x h0 h1 w hW).mono ?_; rintro e w1 ⟨rfl, hb⟩)
  go_ret
  exact ⟨rfl, hb⟩
end Go.Proofs.YtgfgpepdkffhbaaGreatDoor.Kl
