/- What every row of this seat needs: the listed variables as the walks find them; one start that fits; the row's last step. -/
import Derived.Test.YtgfgpepdkffhbaaGreatDoorBase
import Derived.Test.YtgfgpepdkffhbaaGreatDoorCards
import Derived.Test.YtgfgpepdkffhbaaGreatDoorTie
import Derived.Below
import Derived.ChangeSame
import Derived.ChangeMaps5
import Derived.ShutString
import Derived.WalkKit
import Derived.ProofKit
import Derived.OpenShut
import Derived.Deep.DeepHandedRow
import Derived.Lib.LaidTab
namespace Go.Proofs.YtgfgpepdkffhbaaGreatDoor.Kl
open Go.ChangeShapes Go.WideShapes Go.ChangeAt Go.RowKit
set_option linter.unusedVariables false
set_option linter.unusedSimpArgs false

theorem own : ownKnob Tryz.prog.godebug = none := by kernel_rfl

/-- a listed table of integers, wherever it stands on the list. -/
theorem tabIs_of_mem {P : Program} {W : World} {name : String} {k : IntKind} {zs : List Int} {g : Nat} {t e : TypeId} {n : Nat}
    (hg : P.globalNamed name = some g) (hty : (P.globals[g]?).map (·.type) = some t) (ht : P.underlying t = some (.array n e)) (he : P.underlying e = some (.int k)) (hce : P.cellsOf e = 1) (hct : P.cellsOf t = n) :
    ∀ (l : List (String × DataW Unit)) (ps : List MemPlace), DataW.LaidVars P W l ps → (name, Lib.tabData k zs) ∈ l → Lib.TabIs P W name k zs := by
  intro l
  induction l with
  | nil => intro ps _ hm; cases hm
  | cons x r ih =>
    intro ps h hm
    obtain ⟨g', t', cs, fuel, p, q, hg', ht', hvar, hd, hr, _⟩ := h
    rcases List.mem_cons.1 hm with e | hm
    · subst e
      obtain rfl := Option.some.inj (hg.symm.trans hg')
      obtain rfl := Option.some.inj (hty.symm.trans ht')
      unfold Lib.TabIs
      rw [hvar, ← Lib.cells_of_tab ht he hce hct hd]
    · exact ih q hr hm

theorem gPow : Tryz.prog.globalNamed "internal/strconv.uint64pow10" = some 1 := by kernel_rfl
theorem gPowType : (Tryz.prog.globals[1]?).map (·.type) = some 180 := by kernel_rfl
theorem cellsPow : Tryz.prog.cellsOf 180 = 20 := by kernel_rfl
theorem cellsU64 : Tryz.prog.cellsOf 145 = 1 := by kernel_rfl

theorem powData : (Rows.laid_internal_strconv_uint64pow10 : DataW Unit) = Lib.tabData .u64 Lib.pow10Tab := by kernel_rfl
theorem wd_of_laid {l : List (String × DataW Unit)} {W : World} (h : laidMet Tryz.prog l W) (hm : ("internal/strconv.uint64pow10", Rows.laid_internal_strconv_uint64pow10) ∈ l) (hs : W.ShapedOpen Tryz.prog) : Wd W := by
  obtain ⟨ps, hl, _⟩ := h
  rw [powData] at hm
  exact ⟨hs, tabIs_of_mem gPow gPowType Tryz.underlying180 Tryz.underlying145 cellsU64 cellsPow _ _ hl hm⟩

section
variable {H : Type} {enc : TypeId × Value → H} {P : Program}
/-- the row's last step behind a call of which it is known that nothing that existed has changed. -/
theorem post_below {f : Func} {s : ChangeSpec} {apart fresh handsOn again : Bool} {W W' : World} {args : Array Value} {v : Value} {ds gs : List (DataW H)} {before pa pv : List MemPlace}
    (hW : DataW.Whole enc P f.params.toList s.vars apart W args.toList ds gs before)
    (hres : ∀ (b : Nat) (sp : Nat → Bool) (hd : Bool), DataW.TrodAll enc P W' b sp hd f.resultTypes.toList (v.resultList f.resultTypes.size) (s.fn H (ds ++ gs)).results [])
    (hargs : ∀ sp : Nat → Bool, (∀ p ∈ before, sp p.block = true) → DataW.TrodAll enc P W' 0 sp true f.params.toList args.toList (s.fn H (ds ++ gs)).args pa)
    (hvars : ∀ sp : Nat → Bool, (∀ p ∈ before, sp p.block = true) → DataW.TrodVars enc P W' sp s.vars (s.fn H (ds ++ gs)).vars pv)
    (hps : before = pa ++ pv) (hb : Below W.heap.size W W')
    (hok : ∀ (j : Nat) (t : TypeId) (r : Value), f.resultTypes[j]? = some t → (v.resultList f.resultTypes.size)[j]? = some r → Value.okWide P W' .any 0 t r) :
    s.post enc P f apart fresh handsOn again W args v W' := by
  have old : ∀ p ∈ before, p.block < W.heap.size := fun p hp => hW.lt p hp
  have mark : ∀ p ∈ before, (fun b => decide (b < W.heap.size)) p.block = true := fun p hp => by simpa using old p hp
  refine ⟨ds, gs, before, [], pa, pv, hW, hres _ _ _, hargs _ mark, hvars _ mark, World.keptBut_mono (fun p hp => ⟨hp, ?_⟩) (hb.frame (· ∈ before)), fun _ => ?_⟩
  · rw [hps, List.mem_append] at hp
    exact Or.inr hp
  · obtain ⟨_, _, _, _, _, hz, hn⟩ := hW
    refine ⟨hok, _, _, ([] ++ pa) ++ pv, ⟨[] ++ pa, pv, trodAll_append (hargs _ (fun _ _ => rfl)) (hres _ _ _), hvars _ (fun _ _ => rfl), rfl, fun b off hp => ?_, fun ha => ?_⟩, fun p hp _ => ?_⟩
    · have hin : MemPlace.cell b off ∈ before := by rw [hps]; simpa using hp
      rw [hb.frozen (old _ hin)]
      exact hz b off hin
    · have := hn ha
      rw [hps] at this
      simpa using this
    · rw [hps]
      simpa using hp
end

/-- ONE START THAT FITS: the settled world, each listed variable as its initialiser lays it. -/
noncomputable def low : Nat := (World.holding Tryz.prog default ⟨#[], #[], []⟩).heap.size
abbrev textRange : ByteArray := ⟨#[118, 97, 108, 117, 101, 32, 111, 117, 116, 32, 111, 102, 32, 114, 97, 110, 103, 101]⟩
abbrev textSyntax : ByteArray := ⟨#[105, 110, 118, 97, 108, 105, 100, 32, 115, 121, 110, 116, 97, 120]⟩
def row32 : Array Value := #[0, 1, 28, 2, 29, 14, 24, 3, 30, 22, 20, 15, 25, 17, 4, 8, 31, 27, 13, 23, 21, 19, 16, 7, 26, 12, 18, 6, 11, 5, 10, 9].map fun z : Int => Value.int .u8 z
def row64 : Array Value := #[0, 1, 56, 2, 57, 49, 28, 3, 61, 58, 42, 50, 38, 29, 17, 4, 62, 47, 59, 36, 45, 43, 51, 22, 53, 39, 33, 30, 24, 18, 12, 5, 63, 55, 48, 27, 60, 41, 37, 16, 46, 35, 44, 21, 52, 32, 23, 11, 54, 26, 40, 15, 34, 20, 31, 10, 25, 14, 19, 9, 13, 8, 7, 6].map fun z : Int => Value.int .u8 z
def rowPow : Array Value := #[1, 10, 100, 1000, 10000, 100000, 1000000, 10000000, 100000000, 1000000000, 10000000000, 100000000000, 1000000000000, 10000000000000, 100000000000000, 1000000000000000, 10000000000000000, 100000000000000000, 1000000000000000000, 10000000000000000000].map fun z : Int => Value.int .u64 z
def refill (vs : Array Value) : Obj → Obj
  | .cells _ t frozen => .cells vs t frozen
  | o => o
noncomputable def laidWorld (os : Os) : World :=
  let w0 := World.holding Tryz.prog os ⟨#[.cells #[.string textRange] 194, .cells #[.string textSyntax] 194], #[], []⟩
  { w0 with heap := ((((w0.heap.modify 4 (refill row32)).modify 5 (refill row64)).modify 1 (refill rowPow)).modify 3 (refill #[.iface 192 (.pointer (some ⟨low, 0, none⟩))])).modify 2 (refill #[.iface 192 (.pointer (some ⟨low + 1, 0, none⟩))]) }
end Go.Proofs.YtgfgpepdkffhbaaGreatDoor.Kl
