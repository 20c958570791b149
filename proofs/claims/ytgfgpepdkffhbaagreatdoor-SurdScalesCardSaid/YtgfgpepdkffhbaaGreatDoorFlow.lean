/- A region that draws its order, its operations without calls: a flow of values. Every order comes to the same frame and the same world, if the world hangs only on which operations have run. -/
import Derived.Test.YtgfgpepdkffhbaaGreatDoorTailIn
namespace Go.Proofs.YtgfgpepdkffhbaaGreatDoor.Kl
open Go

def flowOk (ops : Array Oper) (sz : Nat) : Bool :=
  (List.range ops.size).all fun i => match ops[i]? with
    | none => true
    | some o => o.guard.isNone && o.after.all (fun e => decide (e.on < i)) && (match o.dst with
      | none => true
      | some d => decide (d < sz) && (List.range ops.size).all (fun j => decide (j = i) || !decide ((ops[j]?.bind (·.dst)) = some d)))

structure FlowFacts (ops : Array Oper) (sz : Nat) : Prop where
  guard : ∀ (i : Nat) (o : Oper), ops[i]? = some o → o.guard = none
  after : ∀ (i : Nat) (o : Oper), ops[i]? = some o → ∀ e ∈ o.after, e.on < i
  dst : ∀ (i : Nat) (o : Oper) (d : Tmp), ops[i]? = some o → o.dst = some d → d < sz
  one : ∀ (i j : Nat) (oi oj : Oper) (d : Tmp), ops[i]? = some oi → ops[j]? = some oj → oi.dst = some d → oj.dst = some d → i = j

theorem flowFacts {ops : Array Oper} {sz : Nat} (h : flowOk ops sz = true) : FlowFacts ops sz := by
  have H : ∀ (i : Nat) (o : Oper), ops[i]? = some o → (o.guard.isNone && o.after.all (fun e => decide (e.on < i)) && (match o.dst with
      | none => true
      | some d => decide (d < sz) && (List.range ops.size).all (fun j => decide (j = i) || !decide ((ops[j]?.bind (·.dst)) = some d)))) = true := by
    intro i o ho
    have hi : i < ops.size := (Array.getElem?_eq_some_iff.1 ho).1
    have := List.all_eq_true.1 h i (List.mem_range.2 hi)
    simp only [ho] at this
    exact this
  refine ⟨fun i o ho => ?_, fun i o ho e he => ?_, fun i o d ho hd => ?_, fun i j oi oj d hi hj hdi hdj => ?_⟩
  · have := H i o ho
    simp only [Bool.and_eq_true] at this
    exact Option.isNone_iff_eq_none.1 this.1.1
  · have := H i o ho
    simp only [Bool.and_eq_true] at this
    have h2 := Array.all_eq_true'.1 this.1.2 e he
    simpa using h2
  · have := H i o ho
    simp only [Bool.and_eq_true, hd] at this
    simpa using this.2.1
  · have := H i oi hi
    simp only [Bool.and_eq_true, hdi] at this
    have h2 := List.all_eq_true.1 this.2.2 j (List.mem_range.2 (Array.getElem?_eq_some_iff.1 hj).1)
    simp only [hj, Option.bind_some, hdj, decide_true, Bool.not_true, Bool.or_false, decide_eq_true_eq] at h2
    exact h2.symm

structure Flow (md : Region.Mode) (ops : Array Oper) (V : Nat → Value) (a0 : Act) (L : Array Bool) (a : Act) : Prop where
  size : L.size = ops.size
  tsz : a.tmps.size = a0.tmps.size
  dfr : a.defers = a0.defers
  val : ∀ (i : Nat) (o : Oper) (d : Tmp), ops[i]? = some o → o.dst = some d → L.getD i false = true → a.tmps[d]? = some (V i)
  old : ∀ (d : Tmp), (∀ (i : Nat) (o : Oper), ops[i]? = some o → o.dst = some d → L.getD i false = false) → a.tmps[d]? = a0.tmps[d]?
  closed : ∀ (i : Nat) (o : Oper), ops[i]? = some o → L.getD i false = true → ∀ e ∈ o.after, Region.binds md e = true → L.getD e.on false = true

section
variable {md : Region.Mode} {ops : Array Oper} {V : Nat → Value} {a0 a : Act} {L : Array Bool} {P : Program}

theorem Flow.start (md : Region.Mode) (ops : Array Oper) (V : Nat → Value) (a0 : Act) : Flow md ops V a0 (Array.replicate ops.size false) a0 :=
  ⟨by simp, rfl, rfl, fun i o d _ _ h => (by rw [getD_replicate_false] at h; cases h), fun _ _ => rfl, fun i o _ h => (by rw [getD_replicate_false] at h; cases h)⟩

theorem getD_set_same {L : Array Bool} {i : Nat} (hi : i < L.size) : (L.setIfInBounds i true).getD i false = true := by
  simp [hi]
theorem getD_set_or {L : Array Bool} {i j : Nat} (h : (L.setIfInBounds i true).getD j false = true) : i = j ∨ L.getD j false = true := by
  by_cases hij : i = j
  · exact .inl hij
  · rw [getD_set_ne false hij] at h; exact .inr h
theorem getD_set_up {L : Array Bool} {i j : Nat} (h : L.getD j false = true) : (L.setIfInBounds i true).getD j false = true := by
  by_cases hij : i = j
  · subst hij
    refine getD_set_same ?_
    rcases Nat.lt_or_ge i L.size with h' | h'
    · exact h'
    · simp [Array.getElem?_eq_none h'] at h
  · rw [getD_set_ne false hij]; exact h

theorem Flow.step (hf : FlowFacts ops a0.tmps.size) (h : Flow md ops V a0 L a) {i : Nat} {o : Oper} (hi : i ∈ Region.ready md ops L) (ho : ops[i]? = some o) : Flow md ops V a0 (L.setIfInBounds i true) (a.put o.dst (V i)) := by
  obtain ⟨hun, o', ho', hall⟩ := mem_ready.1 hi
  have e : o' = o := Option.some.inj (ho'.symm.trans ho)
  subst e
  have hlt : i < L.size := by rw [h.size]; exact (Array.getElem?_eq_some_iff.1 ho).1
  refine ⟨by simp [h.size], ?_, ?_, ?_, ?_, ?_⟩
  · cases hd : o'.dst <;> simp [Act.put, h.tsz]
  · cases hd : o'.dst <;> simp [Act.put, h.dfr]
  · intro j oj d hj hdj hl
    by_cases hij : i = j
    · subst hij
      have e : o' = oj := Option.some.inj (ho.symm.trans hj)
      subst e
      have hb := hf.dst i o' d ho hdj
      rw [← h.tsz] at hb
      simp [Act.put, hdj, hb]
    · rw [getD_set_ne false hij] at hl
      have hv := h.val j oj d hj hdj hl
      cases hd : o'.dst with
      | none => simpa [Act.put] using hv
      | some d' =>
        have hne : d' ≠ d := fun e => hij (hf.one i j o' oj d ho hj (by rw [hd, e]) hdj)
        simp only [Act.put]
        rw [Array.getElem?_setIfInBounds_ne hne]
        exact hv
  · intro d hno
    have hne : o'.dst ≠ some d := fun e => by
      have := hno i o' ho e
      rw [getD_set_same hlt] at this
      cases this
    have hold := h.old d (fun j oj hj hdj => by
      have := hno j oj hj hdj
      cases hl : L.getD j false with
      | false => rfl
      | true => rw [getD_set_up hl] at this; cases this)
    cases hd : o'.dst with
    | none => simpa [Act.put] using hold
    | some d' =>
      simp only [Act.put]
      rw [Array.getElem?_setIfInBounds_ne (fun e => hne (by rw [hd, e]))]
      exact hold
  · intro j oj hj hl e he hb
    rcases getD_set_or hl with hij | hl
    · subst hij
      have e2 : o' = oj := Option.some.inj (ho.symm.trans hj)
      subst e2
      exact getD_set_up (hall e he hb)
    · exact getD_set_up (h.closed j oj hj hl e he hb)

theorem Flow.ext {a' : Act} (h : Flow md ops V a0 L a) (h' : Flow md ops V a0 L a') : a = a' := by
  have ht : a.tmps = a'.tmps := by
    apply Array.ext_getElem?
    intro d
    by_cases hd : ∃ (i : Nat) (o : Oper), ops[i]? = some o ∧ o.dst = some d ∧ L.getD i false = true
    · obtain ⟨i, o, ho, hdd, hl⟩ := hd
      rw [h.val i o d ho hdd hl, h'.val i o d ho hdd hl]
    · have hno : ∀ (i : Nat) (o : Oper), ops[i]? = some o → o.dst = some d → L.getD i false = false := fun i o ho hdd => by
        cases hl : L.getD i false with
        | false => rfl
        | true => exact (hd ⟨i, o, ho, hdd, hl⟩).elim
      rw [h.old d hno, h'.old d hno]
  cases a; cases a'
  simp only at ht
  subst ht
  have := h.dfr.trans h'.dfr.symm
  simp only at this
  subst this
  rfl

def flowList (ops : Array Oper) (n : Nat) : Array Bool := ((List.range ops.size).map fun i => decide (i < n)).toArray
def flowActs (ops : Array Oper) (V : Nat → Value) (a0 : Act) : Nat → Act
  | 0 => a0
  | n + 1 => (flowActs ops V a0 n).put (ops[n]?.bind (·.dst)) (V n)

theorem flowList_getD (ops : Array Oper) (n i : Nat) (b : Bool) (hi : i < ops.size) : (flowList ops n).getD i b = decide (i < n) := by
  simp [flowList, hi]
theorem flowList_zero (ops : Array Oper) : flowList ops 0 = Array.replicate ops.size false := by
  apply Array.ext
  · simp [flowList]
  · intro i h1 h2
    simp [flowList]
theorem flowList_succ (ops : Array Oper) (n : Nat) : (flowList ops n).setIfInBounds n true = flowList ops (n + 1) := by
  apply Array.ext
  · simp [flowList]
  · intro i h1 h2
    have hi : i < ops.size := by simpa [flowList] using h2
    by_cases hin : n = i
    · subst hin
      simp [flowList]
    · rw [Array.getElem_setIfInBounds_ne _ hin]
      simp only [flowList, List.getElem_toArray, List.getElem_map, List.getElem_range]
      have : (i < n) ↔ (i < n + 1) := by omega
      simp [this]
      simpa [flowList] using hi

theorem Flow.seq (hf : FlowFacts ops a0.tmps.size) : ∀ n, n ≤ ops.size → Flow md ops V a0 (flowList ops n) (flowActs ops V a0 n)
  | 0, _ => by rw [flowList_zero]; exact Flow.start md ops V a0
  | n + 1, hn => by
    have ih := Flow.seq hf n (by omega)
    have ho : ops[n]? = some ops[n] := Array.getElem?_eq_getElem (by omega)
    have hr : n ∈ Region.ready md ops (flowList ops n) := mem_ready.2 ⟨by rw [flowList_getD _ _ _ _ (by omega)]; simp, ops[n], ho, fun e he _ => by
      have := hf.after n _ ho e he
      rw [flowList_getD _ _ _ _ (by omega)]
      simpa using this⟩
    have := ih.step hf hr ho
    rw [flowList_succ] at this
    simpa [flowActs, ho] using this

theorem Flow.final (hf : FlowFacts ops a0.tmps.size) (h : Flow md ops V a0 L a) (hall : ∀ i, i < ops.size → L.getD i false = true) : a = flowActs ops V a0 ops.size := by
  have hL : L = flowList ops ops.size := by
    apply Array.ext
    · simp [flowList, h.size]
    · intro i h1 h2
      have h3 := hall i (by rw [← h.size]; exact h1)
      have h4 := flowList_getD ops ops.size i false (by rw [← h.size]; exact h1)
      simp only [Array.getD_eq_getD_getElem?, Array.getElem?_eq_getElem h1, Option.getD_some] at h3
      simp only [Array.getD_eq_getD_getElem?, Array.getElem?_eq_getElem h2, Option.getD_some] at h4
      rw [h3, h4]
      have : i < ops.size := by rw [← h.size]; exact h1
      simp [this]
  subst hL
  exact h.ext (Flow.seq hf _ (Nat.le_refl _))

theorem Flow.dep {i : Nat} {o : Oper} (hi : i ∈ Region.ready md ops L) (ho : ops[i]? = some o) {j : Nat} (hj : (o.after.any fun e => Region.binds md e && decide (e.on = j)) = true) : L.getD j false = true := by
  obtain ⟨_, o', ho', hall⟩ := mem_ready.1 hi
  have e : o' = o := Option.some.inj (ho'.symm.trans ho)
  subst e
  obtain ⟨e, he, hb⟩ := Array.any_eq_true'.1 hj
  simp only [Bool.and_eq_true, decide_eq_true_eq] at hb
  rw [← hb.2]
  exact hall e he hb.1

theorem Flow.up (h : Flow md ops V a0 L a) {j k : Nat} {o : Oper} (ho : ops[j]? = some o) (hj : (o.after.any fun e => Region.binds md e && decide (e.on = k)) = true) (hl : L.getD j false = true) : L.getD k false = true := by
  obtain ⟨e, he, hb⟩ := Array.any_eq_true'.1 hj
  simp only [Bool.and_eq_true, decide_eq_true_eq] at hb
  rw [← hb.2]
  exact h.closed j o ho hl e he hb.1

theorem Flow.eval (h : Flow md ops V a0 L a) {i : Nat} {o : Oper} {d : Nat} (ho : ops[i]? = some o) (hd : o.dst = some d) (hl : L.getD i false = true) : a.eval (.tmp d) = V i := by
  have := h.val i o d ho hd hl
  simp [Act.eval, this]

theorem Flow.from_ (h : Flow md ops V a0 L a) {d : Nat} (hno : (ops.all fun o => !decide (o.dst = some d)) = true) : a.tmps[d]? = a0.tmps[d]? :=
  h.old d (fun i o ho hd => by
    obtain ⟨hlt, rfl⟩ := Array.getElem?_eq_some_iff.1 ho
    have := Array.all_eq_true.1 hno i hlt
    simp [hd] at this)

theorem ready_unlisted {i : Nat} (hi : i ∈ Region.ready md ops L) : L.getD i true = false := (mem_ready.1 hi).1

theorem wpAny_flow (hf : FlowFacts ops a0.tmps.size) (Wl : Array Bool → World) (Q : Exit → Act → World → Prop)
    (hstep : ∀ (i : Nat) (o : Oper), ops[i]? = some o → ∀ L a, Flow md ops V a0 L a → i ∈ Region.ready md ops L →
      (execOp a.eval o).run P (Wl L) = .ok (.value (V i)) (Wl (L.setIfInBounds i true)) ∨ (o.dst = none ∧ (execOp a.eval o).run P (Wl L) = .ok .skip (Wl (L.setIfInBounds i true))))
    (hdone : ∀ L, L.size = ops.size → (∀ i, i < ops.size → L.getD i false = true) → Q .normal (flowActs ops V a0 ops.size) (Wl L)) :
    ∀ fuel L a, Flow md ops V a0 L a → L.toList.count false ≤ fuel → wpAny P md ops Q fuel L a (Wl L) := by
  have hfin : ∀ L a, Flow md ops V a0 L a → Region.ready md ops L = [] → Q .normal a (Wl L) := by
    intro L a h hr
    have hall : ∀ i, i < ops.size → L.getD i false = true := by
      intro i
      induction i using Nat.strongRecOn with
      | _ i ih =>
        intro hi
        cases hl : L.getD i false with
        | true => rfl
        | false =>
          have : i ∈ Region.ready md ops L := mem_ready.2 ⟨getD_in (by rw [h.size]; exact hi) hl, ops[i], Array.getElem?_eq_getElem hi, fun e he _ => by
            have := hf.after i _ (Array.getElem?_eq_getElem hi) e he
            exact ih _ this (by omega)⟩
          rw [hr] at this
          cases this
    have := h.final hf hall
    subst this
    exact hdone L h.size hall
  intro fuel
  induction fuel with
  | zero =>
    intro L a h hc
    have hr : Region.ready md ops L = [] := by
      rw [List.eq_nil_iff_forall_not_mem]
      intro i hi
      obtain ⟨hun, o, ho, _⟩ := mem_ready.1 hi
      have hlt : i < L.size := by rw [h.size]; exact (Array.getElem?_eq_some_iff.1 ho).1
      have hf0 : L[i] = false := by simpa [hlt] using hun
      have : false ∈ L.toList := by rw [← hf0]; exact Array.getElem_mem_toList hlt
      have := List.count_pos_iff.2 this
      omega
    exact ⟨hr, hfin L a h hr⟩
  | succ fuel ih =>
    intro L a h hc
    refine ⟨hfin L a h, fun i hi => ?_⟩
    obtain ⟨hun, o, ho, _⟩ := mem_ready.1 hi
    have hlt : i < L.size := by rw [h.size]; exact (Array.getElem?_eq_some_iff.1 ho).1
    have hf0 : L[i] = false := by simpa [hlt] using hun
    have hc' : (L.setIfInBounds i true).toList.count false ≤ fuel := by
      rw [Array.toList_setIfInBounds, List.count_set (by simpa using hlt)]
      have hm : false ∈ L.toList := by rw [← hf0]; exact Array.getElem_mem_toList hlt
      have := List.count_pos_iff.2 hm
      have e1 : L.toList[i]'(by simpa using hlt) = false := by simpa using hf0
      simp only [e1]
      rw [if_pos (by rfl), if_neg (by decide)]
      omega
    have hn := ih _ _ (h.step hf hi ho) hc'
    unfold wpOp
    simp only [ho]
    rw [if_pos (by simp [Region.wanted, hf.guard i o ho])]
    refine .inl ?_
    unfold Oper.wp
    rcases hstep i o ho L a h hi with h1 | ⟨h0, h1⟩
    · rw [h1]; exact hn
    · rw [h1]
      simp only [Oper.upon]
      rw [h0] at hn ⊢
      exact hn

theorem wpIn_region_flow {F : Fence} {m : Nat} {id : Nat} {Q : Exit → Act → World → Prop} {w : World} (V : Nat → Value) (hm : P.follows .mixedOrders = true) (hok : flowOk ops a0.tmps.size = true) (hops : ops.all (fun o => quietOp o.op) = true)
    (Wl : Array Bool → World) (hw : Wl (Array.replicate ops.size false) = { w with drawn := w.drawn + 1 })
    (hstep : ∀ (i : Nat) (o : Oper), ops[i]? = some o → ∀ L a, Flow .any ops V a0 L a → i ∈ Region.ready .any ops L →
      (execOp a.eval o).run P (Wl L) = .ok (.value (V i)) (Wl (L.setIfInBounds i true)) ∨ (o.dst = none ∧ (execOp a.eval o).run P (Wl L) = .ok .skip (Wl (L.setIfInBounds i true))))
    (hdone : ∀ L, L.size = ops.size → (∀ i, i < ops.size → L.getD i false = true) → Q .normal (flowActs ops V a0 ops.size) (Wl L)) : (Code.region id ops true).wpIn F m P Q a0 w := by
  refine wpIn_region_any hm ?_
  rw [← hw]
  refine wpAnyIn_of_any (Q' := fun e a w => e = .normal ∧ Q .normal a w) hops (fun e a w h => ⟨h.1, by rw [h.1]; exact h.2⟩) _ _ _ _ ?_
  refine wpAny_flow (V := V) (flowFacts hok) Wl _ hstep (fun L h1 h2 => ⟨rfl, hdone L h1 h2⟩) _ _ _ (Flow.start _ _ _ _) ?_
  simp
end
end Go.Proofs.YtgfgpepdkffhbaaGreatDoor.Kl
