/- appends of terms; klipperef03.insert. -/
import Derived.Test.YtgfgpepdkffhbaaGreatDoorSurdText
import Derived.Deep.RegionHeld3
namespace Go.Proofs.YtgfgpepdkffhbaaGreatDoor.Kl
open Go.RowKit Go.Shelf
set_option linter.unusedVariables false
set_option linter.unusedSimpArgs false

section
variable {P : Program} (w : World)
theorem wpList_append_term {ops : Array Oper} {rest : List Oper} {o : Oper} {a : Act} {Q : Exit → Act → World → Prop} (hgd : o.guard = none) (s x : Operand) (t : TypeId)
    (ho : o.op = .call { callee := .builtin .append, args := #[s, x], argTypes := #[t, t] })
    (base : Nat) (e : TypeId) (i : TypeInfo) (ht : P.underlying t = some (.slice e)) (hi : P.info? e = some i) (hz : i.zero = some (.agg #[.string ⟨#[]⟩, .string ⟨#[]⟩]))
    (hsize : i.size = 2) (hby : i.bytes = 32)
    (v : Value) (ts : List (ByteArray × ByteArray)) (hs : a.eval s = v) (hown : OwnT e w base v ts)
    (g : Nat) (c : Nat) (tm : ByteArray × ByteArray) (hx : a.eval x = .slice (some ⟨g, 0, none⟩) 1 c) (hc0 : w.cell? ⟨g, 0, none⟩ = some (.string tm.1)) (hc1 : w.cell? ⟨g, 1, none⟩ = some (.string tm.2))
    (h63 : ts.length + 1 ≤ maxLen) (hbytes : (ts.length + 1) * 32 ≤ 140737488355328) (hbase : base ≤ w.heap.size)
    (h : ∀ v' w', OwnT e w' base v' (ts ++ [tm]) → w.grownBy w' v.ownBlock → wpList P ops Q rest (a.put o.dst v') w') : wpList P ops Q (o :: rest) a w :=
  wpList_plain hgd fun _ hK => wp_append_term w s x t ho base e i ht hi hz hsize hby v ts hs hown g c tm hx hc0 hc1 h63 hbytes hbase fun v' w' h2 h3 => hK _ _ (h v' w' h2 h3)

theorem tsv_append (a b : List (ByteArray × ByteArray)) : tsv (a ++ b) = tsv a ++ tsv b := by simp [tsv]
theorem tsv_one (ts : List (ByteArray × ByteArray)) : ∀ u ∈ tsv ts, u.oneCell' = true := by
  intro u hu
  unfold tsv at hu
  rw [List.mem_flatMap] at hu
  obtain ⟨t, _, h⟩ := hu
  simp only [List.mem_cons, List.not_mem_nil, or_false] at h
  rcases h with rfl | rfl <;> rfl

/-- append(out, xs...), xs any slice of terms, nil too. -/
theorem wpList_append_terms {ops : Array Oper} {rest : List Oper} {o : Oper} {a : Act} {Q : Exit → Act → World → Prop} (hgd : o.guard = none) (s x : Operand) (t : TypeId)
    (ho : o.op = .call { callee := .builtin .append, args := #[s, x], argTypes := #[t, t] })
    (base : Nat) (e : TypeId) (i : TypeInfo) (ht : P.underlying t = some (.slice e)) (hi : P.info? e = some i) (hz : i.zero = some (.agg #[.string ⟨#[]⟩, .string ⟨#[]⟩]))
    (hsize : i.size = 2) (hby : i.bytes = 32)
    (v : Value) (ts us : List (ByteArray × ByteArray)) (hs : a.eval s = v) (hown : OwnT e w base v ts)
    (B m c : Nat) (A : Option Addr) (hx : a.eval x = .slice A m c) (hU : IsT w B A m c us)
    (h63 : ts.length + m ≤ maxLen) (hbytes : (ts.length + m) * 32 ≤ 140737488355328) (hbase : base ≤ w.heap.size)
    (h : ∀ v' w', OwnT e w' base v' (ts ++ us) → w.grownBy w' v.ownBlock → wpList P ops Q rest (a.put o.dst v') w') : wpList P ops Q (o :: rest) a w := by
  cases A with
  | none =>
    have hm : m = 0 := by
      rcases Nat.eq_zero_or_pos m with h0 | h0
      · exact h0
      · obtain ⟨ad, t, e0, _⟩ := hU.at_ h0
        cases e0
    subst hm
    have hus : us = [] := List.eq_nil_of_length_eq_zero hU.len
    subst hus
    refine wpList_plain hgd fun K hK => ?_
    have hr : (Builtin.append_ #[t, t] o.type #[v, .slice none 0 c]).run P w = .ok v w := by
      rcases hown.2 with ⟨rfl, h0⟩ | ⟨g, cap, cur, rfl, _, _, hnc, _⟩
      · simp [Builtin.append_, run_underlying ht, sizeOf, typeInfo, hi, Builtin.lenOf, Builtin.firstCells]
      · simp [Builtin.append_, run_underlying ht, sizeOf, typeInfo, hi, Builtin.lenOf, Builtin.firstCells, hnc, storeCells]
    unfold Oper.wp execOp
    simp only [ho, resolve, invoke, builtin, Sem.run_bind, Sem.run_pure, Result.andThen_ok, List.map_toArray, List.map_cons, List.map_nil, hs, hx, hr]
    exact hK _ _ (h v w (by simpa using hown) (World.grownBy.refl w _))
  | some ad =>
    have hl := hU.len
    refine wpList_append_own (P := P) w hgd s x t ho base e i (.agg #[.string ⟨#[]⟩, .string ⟨#[]⟩]) 2 32 ht hi hz hsize hby rfl (by decide) v ts.length (tsv ts) hs hown ad m c (tsv us) hx (by rw [tsv_length, hl]) ?_ (tsv_one us) h63 hbytes hbase (fun v' w' h5 h6 _ => h v' w' ?_ h6)
    · intro j u hu
      have hj : j < us.length * 2 := by
        have := (List.getElem?_eq_some_iff.1 hu).1
        rwa [tsv_length] at this
      obtain ⟨ad', t, e0, _, ht', hc0, hc1⟩ := hU.at_ (show j / 2 < m by omega)
      cases e0
      have hg := tsv_get us (j / 2) t ht'
      rcases Nat.mod_two_eq_zero_or_one j with h0 | h0
      · have hj2 : j / 2 * 2 = j := by omega
        rw [hj2] at hc0 hg
        rw [hg.1] at hu
        rw [hc0, ← hu]
      · have hj2 : j / 2 * 2 + 1 = j := by omega
        rw [hj2] at hc1 hg
        rw [hg.2] at hu
        rw [hc1, ← hu]
    · unfold OwnT
      rw [tsv_append, List.length_append, hl]
      exact h5
end

/-- the new slice of no elements. -/
theorem OwnT.empty {e : TypeId} {w : World} {base g : Nat} (hg : w.heap[g]? = some (.cells #[] e (0, 0))) (hb : base ≤ g) : OwnT e w base (.slice (some ⟨g, 0, none⟩) 0 0) [] :=
  ⟨rfl, Or.inr ⟨g, 0, #[], rfl, hb, hg, Nat.le_refl _, Nat.zero_le _, rfl, rfl⟩⟩
theorem tb_snoc (l : List (Rat × Nat)) (p : Rat × Nat) : tb (l ++ [p]) = tb l ++ [(rtxt p.1, txt (p.2 : Int))] := by simp [tb]
theorem tb_take (l : List (Rat × Nat)) (k : Nat) : tb (l.take k) = (tb l).take k := by simp [tb]

theorem new_cell0 (w : World) (a b : Value) (T : TypeId) : (w.alloc (.cells #[a, b] T)).cell? ⟨w.heap.size, 0, none⟩ = some a := by simp
theorem new_cell1 (w : World) (a b : Value) (T : TypeId) : (w.alloc (.cells #[a, b] T)).cell? ⟨w.heap.size, 1, none⟩ = some b := by simp
theorem len_ok {n : Nat} (h : n ≤ 200000) : n + 1 ≤ maxLen ∧ (n + 1) * 32 ≤ 140737488355328 := by unfold maxLen; omega
def insTo (l : List (Rat × Nat)) (x : Rat × Nat) : Nat → List (Rat × Nat) × Bool
  | 0 => ([], false)
  | k + 1 => match l[k]? with
    | some p => if (insTo l x k).2 = false ∧ x.2 < p.2 then ((insTo l x k).1 ++ [x] ++ [p], true) else ((insTo l x k).1 ++ [p], (insTo l x k).2)
    | none => insTo l x k
def insL (l : List (Rat × Nat)) (x : Rat × Nat) : List (Rat × Nat) := if (insTo l x l.length).2 = true then (insTo l x l.length).1 else (insTo l x l.length).1 ++ [x]
theorem OwnT.keep {e : TypeId} {w w' : World} {base B : Nat} {v : Value} {ts : List (ByteArray × ByteArray)} (h : OwnT e w base v ts) (hb : Below B w w') (hB : w.heap.size ≤ B) : OwnT e w' base v ts := by
  refine ⟨h.1, ?_⟩
  rcases h.2 with h' | ⟨g, cap, cur, hv, hg, hh, hr⟩
  · exact Or.inl h'
  · have hlt : g < w.heap.size := lt_of_block' hh
    exact Or.inr ⟨g, cap, cur, hv, hg, by rw [hb.block g (by omega)]; exact hh, hr⟩
theorem insTo_len (l : List (Rat × Nat)) (x : Rat × Nat) : ∀ k, (insTo l x k).1.length ≤ k + (if (insTo l x k).2 then 1 else 0)
  | 0 => by simp [insTo]
  | k + 1 => by
    have ih := insTo_len l x k
    unfold insTo
    split
    · split
      · rename_i h
        rw [h.1] at ih
        simp at ih ⊢
        omega
      · simp
        omega
    · omega
theorem insTo_le (l : List (Rat × Nat)) (x : Rat × Nat) (k : Nat) : (insTo l x k).1.length ≤ k + 1 := by
  have := insTo_len l x k
  split at this <;> omega
theorem sign_lt (a b : Nat) : ((a : Int) - (b : Int)).sign < 0 ↔ a < b := by
  rw [Int.sign_neg_iff]; omega

/-- the state of insert's loop. -/
structure InsSt (l : List (Rat × Nat)) (x : Rat × Nat) (k : Nat) (base : Nat) (ov : Value) (d : Bool) (W wr : World) : Prop where
  own : OwnT 39 wr base ov (tb (insTo l x k).1)
  done : (insTo l x k).2 = d
  bel : Below base W wr

set_option maxRecDepth 100000 in
set_option maxHeartbeats 10000000 in
theorem insert_any (A : Option Addr) (n c : Nat) (l : List (Rat × Nat)) (x : Rat × Nat) (w : World) (hW : Wd w) (h : IsT w w.heap.size A n c (tb l)) (hm : n ≤ 100000) (hx : DL (x.2 : Int) 200) (hl : ∀ p ∈ l, DL (p.2 : Int) 200) :
    Calls Tryz.prog 82 #[.slice A n c, .agg #[.string (rtxt x.1), .string (txt (x.2 : Int))]] w fun e w' => (∃ A1 n1 c1, e = .returned (.slice A1 n1 c1) ∧ n1 = (insL l x).length ∧ IsT w' w'.heap.size A1 n1 c1 (tb (insL l x))) ∧ Below w.heap.size w w' := by
  obtain ⟨i0, hi0, hz0, hz1, hz2⟩ := term_parts info_rterm
  have hln : l.length = n := by have := h.len; rw [tb_length] at this; exact this
  have HLN := Lib.hid hln; clear hln
  have hal0 := (Below.refl w.heap.size w).alloc (Nat.le_refl _) (.cells #[.string (rtxt x.1), .string (txt (x.2 : Int))] 39)
  have hbox0 := heap_alloc_new w (.cells #[.string (rtxt x.1), .string (txt (x.2 : Int))] 39)
  obtain ⟨F, hF⟩ : ∃ F, rtxt x.1 = F := ⟨_, rfl⟩
  obtain ⟨G, hG⟩ : ∃ F, txt (x.2 : Int) = F := ⟨_, rfl⟩
  rw [hF, hG] at hal0 hbox0
  have HF := Lib.hid hF
  have HG := Lib.hid hG
  have cmpx : ∀ (q : Nat), DL (q : Int) 200 → ∀ w, Wd w → Calls Tryz.prog 38 #[.string G, .string (txt (q : Int))] w fun e w' => e = .returned (.int .i64 ((x.2 : Int) - (q : Int)).sign) ∧ Below w.heap.size w w' := by
    intro q hq w hW
    have := refCompare_any (x.2 : Int) (q : Int) (hx.mono (by decide)) (hq.mono (by decide)) w hW
    rw [hG] at this; exact this
  rw [hF, hG]
  clear hF hG
  go_enter Tryz.func82, Tryz.ntmps82
  go_wp2_with fail
  obtain ⟨W1, hW1⟩ : ∃ W, w.alloc (.cells #[.string F, .string G] 39) = W := ⟨_, rfl⟩
  have hsz1 : W1.heap.size = w.heap.size + 1 := by rw [← hW1]; simp
  obtain ⟨b, hb⟩ : ∃ b, w.heap.size = b := ⟨_, rfl⟩
  rw [hW1] at hal0 hbox0 ⊢
  rw [hb] at hbox0 hsz1 hal0 h ⊢
  have HB := Lib.hid hb
  have HS1 := Lib.hid hsz1
  have hT1 : IsT W1 b A n c (tb l) := h.below hal0
  have hWd1 : Wd W1 := hW.below (by rw [hb]; exact hal0)
  clear hW1 hb
  have hlt1 : b < W1.heap.size := by omega
  clear hsz1
  go_loopw [5, 6, 7] (fun o dv iv wr => ∃ (ov : Value) (k : Nat) (d : Bool), ov = o ∧ iv = .int .i64 (k : Int) ∧ k ≤ n ∧ dv = .bool d ∧ InsSt l x k W1.heap.size ov d W1 wr) (fun _ _ iv _ => n - (intOf iv).toNat)
  case atStart => exact ⟨_, 0, false, rfl, rfl, Nat.zero_le _, rfl, OwnT.nil _ _ _, rfl, Below.refl _ _⟩
  case round =>
    obtain ⟨ov, k, d, rfl, rfl, hk, rfl, hst⟩ := hrel
    obtain ⟨hown, hdn, hbel⟩ := hst
    have hbx := hbel.block b hlt1
    rw [hbox0] at hbx
    have hwd : Wd wr := hWd1.below hbel
    have hwg := hbel.size
    have hle := insTo_le l x k
    by_cases hkn : k < n
    · obtain ⟨ad, t, rfl, hab, htk, hc1, hc2⟩ := ((hT1.more (Nat.le_of_lt hlt1)).below hbel).at_ hkn
      obtain ⟨p, hp, rfl⟩ := tb_get htk
      rw [add_next] at hc2
      have hpd := hl p (List.mem_of_getElem? hp)
      have hcq := cmpx p.2 hpd
      have hstep : insTo l x (k + 1) = if (insTo l x k).2 = false ∧ x.2 < p.2 then ((insTo l x k).1 ++ [x] ++ [p], true) else ((insTo l x k).1 ++ [p], (insTo l x k).2) := by
        show (match l[k]? with | some p => _ | none => _) = _
        rw [hp]
      have hC : ∀ w', Below W1.heap.size W1 w' → w'.cell? (ad.add (k * 2)) = some (.string (rtxt p.1)) ∧ w'.cell? ⟨(ad.add (k * 2)).block, (ad.add (k * 2)).off + 1, none⟩ = some (.string (txt (p.2 : Int))) := by
        intro w' hb'
        obtain ⟨ad', t', e1, _, htk', d1, d2⟩ := ((hT1.more (Nat.le_of_lt hlt1)).below hb').at_ hkn
        cases e1
        rw [htk] at htk'
        cases htk'
        rw [add_next] at d2
        exact ⟨d1, d2⟩
      have hX : ∀ w', Below W1.heap.size W1 w' → w'.cell? ⟨b, 0, none⟩ = some (.string F) ∧ w'.cell? ⟨b, 1, none⟩ = some (.string G) := by
        intro w' hb'
        have := hb'.block b hlt1
        rw [hbox0] at this
        exact cell2 this
      have HC := Lib.hid hC
      have HX := Lib.hid hX
      have hol : (tb (insTo l x k).1).length ≤ k + 1 := by rw [tb_length]; exact hle
      have HT1 := Lib.hid hT1
      have HL := Lib.hid hl
      have HH := Lib.hid h
      have HBX := Lib.hid hbox0
      have HHX := Lib.hid hx
      clear hC hX htk hc1 hc2 hbx hp hT1 hl h hbox0 hx hal0
      obtain ⟨FP, hFP⟩ : ∃ F, rtxt p.1 = F := ⟨_, rfl⟩
      obtain ⟨GP, hGP⟩ : ∃ F, txt (p.2 : Int) = F := ⟨_, rfl⟩
      rw [hFP, hGP] at HC
      rw [hGP] at hcq
      have HFP := Lib.hid hFP
      have HGP := Lib.hid hGP
      have hk1 : k + 1 ≤ n := hkn
      cases d with
      | true =>
        rw [hdn, if_neg (fun h => by cases h.1)] at hstep
        have hs1 : (insTo l x (k + 1)).1 = (insTo l x k).1 ++ [p] := by rw [hstep]
        have hs2 : (insTo l x (k + 1)).2 = true := by rw [hstep]
        have HS1' := Lib.hid hs1
        have HS2' := Lib.hid hs2
        clear hstep hs1 hs2 hcq hdn cmpx hFP hGP
        obtain ⟨O, hO⟩ : ∃ O, tb (insTo l x k).1 = O := ⟨_, rfl⟩
        rw [hO] at hown hol
        have HO := Lib.hid hO
        clear hO hle
        go_wp2_with fail
        go_region
        obtain ⟨wz, hwz⟩ : ∃ W, wr.drew = W := ⟨_, rfl⟩
        have hBwz : Below W1.heap.size W1 wz := by rw [← hwz]; exact hbel.drew
        have hownz : OwnT 39 wz W1.heap.size ov O := by rw [← hwz]; exact hown
        rw [hwz]
        obtain ⟨z1, z2⟩ := HC.out wz hBwz
        clear hwz hown hbel
        have ha_wp := hBwz.alloc hBwz.size (.cells #[.string FP, .string GP] 39)
        have hs_wp := ha_wp.size
        have hm_wp : (O).length + 1 ≤ maxLen := by unfold maxLen; (try simp only [List.length_append, List.length_singleton]); omega
        have hn_wp : ((O).length + 1) * 32 ≤ 140737488355328 := by (try simp only [List.length_append, List.length_singleton]); omega
        have hp_wp := hownz.alloc (.cells #[.string FP, .string GP] 39)
        have hq_wp := OwnT.base' hp_wp
        have hc_wp : (wz.alloc (.cells #[.string FP, .string GP] 39)).cell? ⟨wz.heap.size, 0, none⟩ = some (.string FP) := by simp
        have hd_wp : (wz.alloc (.cells #[.string FP, .string GP] 39)).cell? ⟨wz.heap.size, 1, none⟩ = some (.string GP) := by simp
        go_wp2_with (at_builtin; refine wpList_append_term _ rfl _ _ 30 rfl W1.heap.size 39 i0 Tryz.underlying30 hi0 hz0 hz1 hz2 _ (O) rfl hp_wp wz.heap.size 1 (FP, GP) rfl hc_wp hd_wp hm_wp hn_wp hs_wp ?_; intro vwp wp hown1 hgr; have hBwp := ha_wp.grown hgr hs_wp hq_wp; clear hgr)
        go_wp2_with fail
        exact ⟨⟨_, k + 1, true, rfl, by congr 1, hk1, rfl, ⟨by rw [HS1'.out, tb_snoc, HO.out, HFP.out, HGP.out]; exact hown1, HS2'.out, hBwp⟩⟩, by simp [intOf]; omega⟩
      | false =>
        by_cases hlt : x.2 < p.2
        · rw [hdn, if_pos ⟨rfl, hlt⟩] at hstep
          have hs1 : (insTo l x (k + 1)).1 = (insTo l x k).1 ++ [x] ++ [p] := by rw [hstep]
          have hs2 : (insTo l x (k + 1)).2 = true := by rw [hstep]
          have HS1' := Lib.hid hs1
          have HS2' := Lib.hid hs2
          have hsg := (sign_lt x.2 p.2).2 hlt
          obtain ⟨z, hz⟩ : ∃ z, ((x.2 : Int) - (p.2 : Int)).sign = z := ⟨_, rfl⟩
          rw [hz] at hcq hsg
          have hdz : decide (z < 0) = true := decide_eq_true hsg
          clear hstep hs1 hs2 hdn cmpx hFP hGP hz hlt
          obtain ⟨O, hO⟩ : ∃ O, tb (insTo l x k).1 = O := ⟨_, rfl⟩
          rw [hO] at hown hol
          have HO := Lib.hid hO
          clear hO hle
          go_wp2_with fail
          have hBd : Below W1.heap.size W1 wr.drew := hbel.drew
          have hwdd : Wd wr.drew := hwd.drew
          have hgd : W1.heap.size ≤ wr.drew.heap.size := hBd.size
          have hownd : OwnT 39 wr.drew W1.heap.size ov O := hown
          obtain ⟨z1, z2⟩ := HC.out _ hBd
          obtain ⟨x0, x1⟩ := HX.out _ hBd
          have hc1 := hcq wr.drew hwdd
          clear hcq
          go_region_held3 (fun w' : World => w'.cell? (ad.add (k * 2)) = some (.string FP) ∧ w'.cell? ⟨(ad.add (k * 2)).block, (ad.add (k * 2)).off + 1, none⟩ = some (.string GP) ∧ w'.cell? ⟨b, 0, none⟩ = some (.string F) ∧ w'.cell? ⟨b, 1, none⟩ = some (.string G)) (first | exact ⟨by assumption, by assumption, by assumption, by assumption⟩) (first
            | (with_reducible refine Calls.mono hc1 ?_; rintro e wz ⟨rfl, hb5⟩; have hBwz := hBd.trans (hb5.mono hgd); have y := HC.out _ hBwz; have y1 := y.1; have y2 := y.2; have v := HX.out _ hBwz; have v1 := v.1; have v2 := v.2; have hownz := hownd.keep hb5 (Nat.le_refl _)))
          rename_i hHeld
          clear z1 z2 x0 x1 hc1 hb5 hownd hgd hwdd hBd hown hbel y v hHeld
          have ha_wx := hBwz.alloc hBwz.size (.cells #[.string F, .string G] 39)
          have hs_wx := ha_wx.size
          have hm_wx : (O).length + 1 ≤ maxLen := by unfold maxLen; (try simp only [List.length_append, List.length_singleton]); omega
          have hn_wx : ((O).length + 1) * 32 ≤ 140737488355328 := by (try simp only [List.length_append, List.length_singleton]); omega
          have hp_wx := hownz.alloc (.cells #[.string F, .string G] 39)
          have hq_wx := OwnT.base' hp_wx
          have hc_wx : (wz.alloc (.cells #[.string F, .string G] 39)).cell? ⟨wz.heap.size, 0, none⟩ = some (.string F) := by simp
          have hd_wx : (wz.alloc (.cells #[.string F, .string G] 39)).cell? ⟨wz.heap.size, 1, none⟩ = some (.string G) := by simp
          obtain ⟨hm_wp, hn_wp⟩ := len_ok (show (O ++ [(F, G)]).length ≤ 200000 by rw [List.length_append]; show O.length + 1 ≤ 200000; omega)
          go_wp2_with (first
            | (at_builtin; refine wpList_append_term (o := ⟨some 30, _, _, _, _, _⟩) _ rfl _ _ 30 rfl W1.heap.size 39 i0 Tryz.underlying30 hi0 hz0 hz1 hz2 _ O rfl hp_wx wz.heap.size 1 (F, G) rfl hc_wx hd_wx hm_wx hn_wx hs_wx ?_; intro vwx wx hownx hgr; have hBwx := ha_wx.grown hgr hs_wx hq_wx; have u1 := (HC.out _ hBwx).1; have u2 := (HC.out _ hBwx).2; have ha_wp := hBwx.alloc hBwx.size (.cells #[.string FP, .string GP] 39); have hs_wp := ha_wp.size; have hp_wp := hownx.alloc (.cells #[.string FP, .string GP] 39); have hq_wp := OwnT.base' hp_wp; have hc_wp := new_cell0 wx (.string FP) (.string GP) 39; have hd_wp := new_cell1 wx (.string FP) (.string GP) 39; clear hgr y1 y2 v1 v2 hc_wx hd_wx)
            | (at_builtin; refine wpList_append_term (o := ⟨some 37, _, _, _, _, _⟩) _ rfl _ _ 30 rfl W1.heap.size 39 i0 Tryz.underlying30 hi0 hz0 hz1 hz2 _ (O ++ [(F, G)]) rfl hp_wp wx.heap.size 1 (FP, GP) rfl hc_wp hd_wp hm_wp hn_wp hs_wp ?_; intro vwp wp hown2 hgr; have hBwp := ha_wp.grown hgr hs_wp hq_wp; clear hgr))
          go_wp2_with fail
          exact ⟨⟨_, k + 1, true, rfl, by congr 1, hk1, rfl, ⟨by rw [HS1'.out, tb_snoc, tb_snoc, HO.out, HFP.out, HGP.out, HF.out, HG.out]; exact hown2, HS2'.out, hBwp⟩⟩, by simp [intOf]; omega⟩
        · rw [hdn, if_neg (fun h => hlt h.2)] at hstep
          have hs1 : (insTo l x (k + 1)).1 = (insTo l x k).1 ++ [p] := by rw [hstep]
          have hs2 : (insTo l x (k + 1)).2 = false := by rw [hstep]
          have HS1' := Lib.hid hs1
          have HS2' := Lib.hid hs2
          have hsg := fun h => hlt ((sign_lt x.2 p.2).1 h)
          obtain ⟨z, hz⟩ : ∃ z, ((x.2 : Int) - (p.2 : Int)).sign = z := ⟨_, rfl⟩
          rw [hz] at hcq hsg
          have hdz : decide (z < 0) = false := decide_eq_false hsg
          clear hstep hs1 hs2 hdn cmpx hFP hGP hz hlt hsg
          obtain ⟨O, hO⟩ : ∃ O, tb (insTo l x k).1 = O := ⟨_, rfl⟩
          rw [hO] at hown hol
          have HO := Lib.hid hO
          clear hO hle
          go_wp2_with fail
          have hBd : Below W1.heap.size W1 wr.drew := hbel.drew
          have hwdd : Wd wr.drew := hwd.drew
          have hgd : W1.heap.size ≤ wr.drew.heap.size := hBd.size
          have hownd : OwnT 39 wr.drew W1.heap.size ov O := hown
          obtain ⟨z1, z2⟩ := HC.out _ hBd
          obtain ⟨x0, x1⟩ := HX.out _ hBd
          have hc1 := hcq wr.drew hwdd
          clear hcq
          go_region_held3 (fun w' : World => w'.cell? (ad.add (k * 2)) = some (.string FP) ∧ w'.cell? ⟨(ad.add (k * 2)).block, (ad.add (k * 2)).off + 1, none⟩ = some (.string GP) ∧ w'.cell? ⟨b, 0, none⟩ = some (.string F) ∧ w'.cell? ⟨b, 1, none⟩ = some (.string G)) (first | exact ⟨by assumption, by assumption, by assumption, by assumption⟩) (first
            | (with_reducible refine Calls.mono hc1 ?_; rintro e wz ⟨rfl, hb5⟩; have hBwz := hBd.trans (hb5.mono hgd); have y := HC.out _ hBwz; have y1 := y.1; have y2 := y.2; have v := HX.out _ hBwz; have v1 := v.1; have v2 := v.2; have hownz := hownd.keep hb5 (Nat.le_refl _)))
          rename_i hHeld
          clear z1 z2 x0 x1 hc1 hb5 hownd hgd hwdd hBd hown hbel y v hHeld
          have ha_wp := hBwz.alloc hBwz.size (.cells #[.string FP, .string GP] 39)
          have hs_wp := ha_wp.size
          have hm_wp : (O).length + 1 ≤ maxLen := by unfold maxLen; (try simp only [List.length_append, List.length_singleton]); omega
          have hn_wp : ((O).length + 1) * 32 ≤ 140737488355328 := by (try simp only [List.length_append, List.length_singleton]); omega
          have hp_wp := hownz.alloc (.cells #[.string FP, .string GP] 39)
          have hq_wp := OwnT.base' hp_wp
          have hc_wp : (wz.alloc (.cells #[.string FP, .string GP] 39)).cell? ⟨wz.heap.size, 0, none⟩ = some (.string FP) := by simp
          have hd_wp : (wz.alloc (.cells #[.string FP, .string GP] 39)).cell? ⟨wz.heap.size, 1, none⟩ = some (.string GP) := by simp
          go_wp2_with (at_builtin; refine wpList_append_term _ rfl _ _ 30 rfl W1.heap.size 39 i0 Tryz.underlying30 hi0 hz0 hz1 hz2 _ (O) rfl hp_wp wz.heap.size 1 (FP, GP) rfl hc_wp hd_wp hm_wp hn_wp hs_wp ?_; intro vwp wp hown1 hgr; have hBwp := ha_wp.grown hgr hs_wp hq_wp; clear hgr)
          go_wp2_with fail
          exact ⟨⟨_, k + 1, false, rfl, by congr 1, hk1, rfl, ⟨by rw [HS1'.out, tb_snoc, HO.out, HFP.out, HGP.out]; exact hown1, HS2'.out, hBwp⟩⟩, by simp [intOf]; omega⟩
    · have hke : k = n := by omega
      have hol : (tb (insTo l x k).1).length ≤ k + 1 := by rw [tb_length]; exact hle
      have hfin : insL l x = if d = true then (insTo l x k).1 else (insTo l x k).1 ++ [x] := by
        unfold insL
        rw [HLN.out, ← hke, hdn]
      have HFIN := Lib.hid hfin
      have HT1 := Lib.hid hT1
      have HL := Lib.hid hl
      have HH := Lib.hid h
      have HHX := Lib.hid hx
      have hX := cell2 hbx
      have HBX := Lib.hid hbox0
      have HALL := Lib.hid hal0
      clear hfin hT1 hl h hx hbox0 hal0 hbx cmpx hdn
      obtain ⟨O, hO⟩ : ∃ O, tb (insTo l x k).1 = O := ⟨_, rfl⟩
      rw [hO] at hown hol
      have HO := Lib.hid hO
      clear hO hle
      obtain ⟨x0, x1⟩ := hX
      subst hke
      cases d with
      | true =>
        obtain ⟨A1, c1, rfl, hT⟩ := hown.form
        have hr : tb (insL l x) = O := by rw [HFIN.out, if_pos rfl, HO.out]
        have hrl : O.length = (insL l x).length := by rw [← hr, tb_length]
        have HR := Lib.hid hr
        have HRL := Lib.hid hrl
        clear hr hrl
        go_wp2_with fail
        go_ret
        refine ⟨⟨A1, _, c1, rfl, HRL.out, by rw [HR.out]; exact hT⟩, ?_⟩
        rw [HB.out]
        exact HALL.out.trans (hbel.mono (by omega))
      | false =>
        have hr : tb (insL l x) = O ++ [(F, G)] := by rw [HFIN.out, if_neg (by decide), tb_snoc, HO.out, HF.out, HG.out]
        have hrl : (O ++ [(F, G)]).length = (insL l x).length := by rw [← hr, tb_length]
        have HR := Lib.hid hr
        have HRL := Lib.hid hrl
        clear hr hrl
        have hBwr := hbel
        have ha_wp := hBwr.alloc hBwr.size (.cells #[.string F, .string G] 39)
        have hs_wp := ha_wp.size
        have hm_wp : (O).length + 1 ≤ maxLen := by unfold maxLen; (try simp only [List.length_append, List.length_singleton]); omega
        have hn_wp : ((O).length + 1) * 32 ≤ 140737488355328 := by (try simp only [List.length_append, List.length_singleton]); omega
        have hp_wp := hown.alloc (.cells #[.string F, .string G] 39)
        have hq_wp := OwnT.base' hp_wp
        have hc_wp : (wr.alloc (.cells #[.string F, .string G] 39)).cell? ⟨wr.heap.size, 0, none⟩ = some (.string F) := by simp
        have hd_wp : (wr.alloc (.cells #[.string F, .string G] 39)).cell? ⟨wr.heap.size, 1, none⟩ = some (.string G) := by simp
        go_wp2_with (at_builtin; refine wpList_append_term _ rfl _ _ 30 rfl W1.heap.size 39 i0 Tryz.underlying30 hi0 hz0 hz1 hz2 _ (O) rfl hp_wp wr.heap.size 1 (F, G) rfl hc_wp hd_wp hm_wp hn_wp hs_wp ?_; intro vwp wp hown1 hgr; have hBwp := ha_wp.grown hgr hs_wp hq_wp; clear hgr)
        obtain ⟨A1, c1, rfl, hT⟩ := hown1.form
        go_wp2_with fail
        go_ret
        refine ⟨⟨A1, _, c1, rfl, HRL.out, by rw [HR.out]; exact hT⟩, ?_⟩
        rw [HB.out]
        exact HALL.out.trans (hBwp.mono (by omega))
end Go.Proofs.YtgfgpepdkffhbaaGreatDoor.Kl
