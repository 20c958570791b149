/- integer.Add. -/
import Derived.Test.YtgfgpepdkffhbaaGreatDoorQuick
import Derived.Test.YtgfgpepdkffhbaaGreatDoorBound
import Derived.Test.YtgfgpepdkffhbaaGreatDoorDivBig
import Derived.Test.YtgfgpepdkffhbaaGreatDoorPlus
namespace Go.Proofs.YtgfgpepdkffhbaaGreatDoor.Kl
open Go.RowKit Go.Shelf
set_option linter.unusedVariables false
set_option linter.unusedSimpArgs false

theorem add_small (x y : Int) (w : World) (hW : Wd w) (hx : (Lib.itoa x).length ≤ 18) (hy : (Lib.itoa y).length ≤ 18) :
    Calls Tryz.prog 45 #[.string (txt x), .string (txt y)] w fun e w' => e = .returned (.string (txt (x + y))) ∧ Below w.heap.size w w' := by
  have hc1 := quick_yes x 18 (by decide) hx w
  have b1 := itoa_small hx
  have b2 := itoa_small hy
  have h0 : -9223372036854775808 ≤ x + y := by omega
  have h1 : x + y ≤ 9223372036854775807 := by omega
  clear b1 b2
  go_enter Tryz.func45, Tryz.ntmps45
  go_wp2_with (first
    | (with_reducible refine Calls.mono hc1 ?_; rintro e w1 ⟨rfl, hb1⟩; have hc2 := quick_yes y 18 (Nat.le_refl _) hy w1)
    | (with_reducible refine Calls.mono hc2 ?_; rintro e w2 ⟨rfl, hb2⟩; have hb12 := hb1.trans (hb2.mono hb1.size); have hc3 := of_any (x + y) h0 h1 w2 (hW.below hb12))
    | (with_reducible refine Calls.mono hc3 ?_; rintro e w3 ⟨rfl, hb3⟩))
  go_ret
  exact ⟨rfl, hb12.trans (hb3.mono hb12.size)⟩

end Go.Proofs.YtgfgpepdkffhbaaGreatDoor.Kl
