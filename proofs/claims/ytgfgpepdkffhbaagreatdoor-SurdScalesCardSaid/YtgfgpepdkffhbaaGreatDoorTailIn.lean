/- A region that draws its order, without a call, inside any fence: the plain calculus serves. -/
import Derived.OrdersIn
import Derived.StillTail
import Derived.StillTactics
import Derived.StillTailTactics
import Derived.OwnWalkIn
namespace Go.Proofs.YtgfgpepdkffhbaaGreatDoor.Kl
open Go

/-- operations that neither call nor defer. -/
def quietOp : Op → Bool
  | .move _ | .assign _ | .load .. | .store .. | .binOp .. | .unOp .. | .indexAddr .. | .convert .. | .fieldAddr .. | .index .. | .field .. => true
  | _ => false

theorem quiet_about {o : Oper} (h : quietOp o.op = true) (P : Program) (w : World) (ρ : Operand → Value) : o.about P w ρ = none := by
  unfold Oper.about
  revert h
  cases o.op <;> simp [quietOp]

theorem quiet_semAt {o : Oper} (h : quietOp o.op = true) (F : Fence) (ρ : Operand → Value) : o.semAt F.round ρ = execOp ρ o :=
  Oper.semAt_plain F ρ o (fun c hc => by rw [hc] at h; cases h)

def PlainEnd : Result Next → Prop
  | .ok (.value _) _ => True
  | .ok .skip _ => True
  | .ok _ _ => False
  | .halt _ _ => True

theorem plainEnd_v {P : Program} {w : World} (s : Sem Value) : PlainEnd ((do pure (Next.value (← s)) : Sem Next).run P w) := by
  simp only [Sem.run_bind]
  cases s.run P w <;> simp [Result.andThen, PlainEnd]
theorem plainEnd_u {P : Program} {w : World} (s : Sem Unit) : PlainEnd ((do s; pure Next.skip : Sem Next).run P w) := by
  simp only [Sem.run_bind]
  cases s.run P w <;> simp [Result.andThen, PlainEnd]

theorem quiet_end {o : Oper} (h : quietOp o.op = true) (P : Program) (w : World) (ρ : Operand → Value) : PlainEnd ((execOp ρ o).run P w) := by
  unfold execOp
  revert h
  cases o.op <;> simp only [quietOp] <;> intro h <;> first | cases h; done | exact plainEnd_v _ | exact plainEnd_u _ | trivial

theorem wpIn_of_wp {F : Fence} {n : Nat} {P : Program} {o : Oper} {a : Act} {w : World} {K : Act → World → Prop} {Q Q' : Exit → Act → World → Prop} (ho : quietOp o.op = true) (hQ : ∀ e a w, Q' e a w → e = .normal)
    (h : o.wp P a w K Q') : o.wpIn F n P a w K Q := by
  refine ⟨fun f hf => (by rw [quiet_about ho] at hf; cases hf), ?_⟩
  rw [quiet_semAt ho]
  have he := quiet_end ho P w a.eval
  unfold Oper.wp at h
  generalize (execOp a.eval o).run P w = r at *
  cases r with
  | ok n w' => cases n <;> simp only [PlainEnd, Oper.upon, Oper.uponIn] at * <;> first | exact h | exact he.elim
  | halt x w' => cases x <;> simp only [Oper.upon] at h <;> first | exact h.elim | cases hQ _ _ _ h

theorem wpAnyIn_of_any {F : Fence} {n : Nat} {P : Program} {md : Region.Mode} {ops : Array Oper} {Q Q' : Exit → Act → World → Prop} (hops : ops.all (fun o => quietOp o.op) = true) (hQ : ∀ e a w, Q' e a w → e = .normal ∧ Q e a w) :
    ∀ (fuel : Nat) (listed : Array Bool) (a : Act) (w : World), wpAny P md ops Q' fuel listed a w → wpAnyIn F n P md ops Q fuel listed a w := by
  intro fuel
  induction fuel with
  | zero => exact fun listed a w h => ⟨h.1, (hQ _ _ _ h.2).2⟩
  | succ fuel ih =>
    intro listed a w h
    refine ⟨fun hr => (hQ _ _ _ (h.1 hr)).2, fun i hi => ?_⟩
    have h2 := h.2 i hi
    unfold wpOp at h2
    unfold wpOpIn
    cases hoi : ops[i]? with
    | none => simp only [hoi] at h2 ⊢; exact ih _ _ _ h2
    | some o =>
      have hq : quietOp o.op = true := by
        obtain ⟨hlt, rfl⟩ := Array.getElem?_eq_some_iff.1 hoi
        exact (Array.all_eq_true.1 hops) i hlt
      simp only [hoi] at h2 ⊢
      split
      · rename_i hw
        simp only [hw, if_true] at h2
        rcases h2 with h2 | h2
        · exact Oper.wpIn_mono (fun a w h => ih _ a w h) (wpIn_of_wp hq (fun e a w h => (hQ e a w h).1) h2)
        · obtain ⟨_, a', w', h3⟩ := h2
          cases (hQ _ _ _ h3).1
      · rename_i hw
        simp only [hw] at h2
        exact ⟨fun f hf => (by rw [quiet_about hq] at hf; cases hf), ih _ _ _ h2⟩

theorem wpIn_region_still_tail {F : Fence} {m : Nat} {P : Program} {id : Nat} {Q : Exit → Act → World → Prop} {a : Act} {w : World} {l : List Oper} (n : Nat) (hm : P.follows .mixedOrders = true) (hB : Region.lexTailB .any l.toArray n = true)
    (hops : l.toArray.all (fun o => quietOp o.op) = true)
    (h : wpStill P l.toArray { w with drawn := w.drawn + 1 } (fun a' => wpList P l.toArray (fun e a w => e = .normal ∧ Q .normal a w) (l.drop n) a' { w with drawn := w.drawn + 1 }) (l.take n) a) : (Code.region id l.toArray true).wpIn F m P Q a w := by
  simp only [Region.lexTailB, Bool.and_eq_true, decide_eq_true_eq] at hB
  obtain ⟨⟨⟨⟨hsel, hn⟩, hs⟩, hc⟩, hlex⟩ := hB
  have hn' : n < l.length := by simpa using hn
  have htl : (l.take n).length = n := by simp; omega
  have hdl : (l.drop n).length = l.toArray.size - n := by simp
  have inv0 : HeadInv .any l.toArray n (Array.replicate l.toArray.size false) :=
    ⟨by simp, fun j oj _ hl => (by rw [getD_replicate_false] at hl; cases hl), fun t _ ht => getD_in (by simpa using ht) (getD_replicate_false _ _)⟩
  have H := wpAnyL_lex (md := .any) (g := l.toArray.size - n) hsel hs hc hn (l.take n) 0 _ a (fun j hj => by
    have hj' : j < n := by rw [htl] at hj; exact hj
    simp [hj']) (by simpa using htl) inv0 (by rw [htl]; exact hlex) h
  refine wpIn_region_any hm ?_
  have := wpAny_of_head (Q' := fun e a w => e = .normal ∧ Q .normal a w) (g := l.toArray.size - n) (fun listed a' hL => by
    have := wpAny_of_seq (md := .any) (Q' := fun e a w => e = .normal ∧ Q .normal a w) (l.drop n) n listed a' { w with drawn := w.drawn + 1 } (fun j => by simp [List.getElem?_drop]) (by rw [hdl]; exact hL.1) hL.2
    rwa [hdl] at this) _ _ _ H
  rw [htl, show n + (l.toArray.size - n) = l.toArray.size by omega] at this
  exact wpAnyIn_of_any hops (fun e a w h => ⟨h.1, by rw [h.1]; exact h.2⟩) _ _ _ _ this

end Go.Proofs.YtgfgpepdkffhbaaGreatDoor.Kl
