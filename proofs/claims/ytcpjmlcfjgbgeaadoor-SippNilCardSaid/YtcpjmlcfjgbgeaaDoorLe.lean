/- The abstract logic over any program: the interpreter. It asks nothing of the program. -/
import Derived.Test.YtcpjmlcfjgbgeaaDoorLd
set_option linter.unusedVariables false
set_option linter.unusedSimpArgs false
namespace Go.AL
open Go

/-- A walk in the text's order: the states S, the values V, which operations are wanted. -/
structure VW (P : Program) (ann : Ann) (ops : Array Oper) (N : Nat → Bool) (S : Nat → AState) (V : Nat → AV) (W : Nat → Bool) : Prop where
  w : ∀ k o, ops[k]? = some o → wantF ops o (lget (S k).tmps) = some (W k)
  t : ∀ k o, ops[k]? = some o → (S (k + 1)).tmps = tput (S k).tmps o.dst (V k)
  v : ∀ k, k < ops.size → W k = false → V k = .undef
  h : ∀ k, k < ops.size → (N k && W k) = false → (S (k + 1)).H = (S k).H
  q : ∀ k o, ops[k]? = some o → W k = true → N k = false → aQuiet P ann o (aval (S k).tmps) (S k).H (V k)
  n : ∀ k o, ops[k]? = some o → W k = true → N k = true → aOp P ann o (aval (S k).tmps) (S k).H (fun v H' => v = V k ∧ H' = (S (k + 1)).H)
  lo : ∀ k j o, ops[k]? = some o → j < k → W k = true → N k = false → (N j && W j) = true → anc ops j k = false → aQuiet P ann o (aval (S k).tmps) (S j).H (V k)
  hi : ∀ k j o, ops[k]? = some o → k < j → j < ops.size → W k = true → N k = false → (N j && W j) = true → anc ops k j = false → aQuiet P ann o (aval (S k).tmps) (S (j + 1)).H (V k)

/-- What stands in no order is apart, and does not both turn memory. -/
def lexV (ops : Array Oper) (N : Nat → Bool) : Bool := (List.range ops.size).all fun k => match ops[k]? with
  | none => false
  | some ok => ok.after.all (fun e => !Region.binds .any e || decide (e.on < k)) && (List.range ops.size).all fun j => decide (j ≤ k) || match ops[j]? with
    | none => true
    | some oj => anc ops k j || (ok.apart ops oj && !(N k && N j))

theorem lexV_edges {ops : Array Oper} {N : Nat → Bool} (h : lexV ops N = true) {k : Nat} {o : Oper} (ho : ops[k]? = some o) : ∀ e ∈ o.after, Region.binds .any e = true → e.on < k := by
  have hk : k < ops.size := (Array.getElem?_eq_some_iff.1 ho).1
  have := List.all_eq_true.1 h k (by simpa using hk)
  simp only [ho, Bool.and_eq_true, Array.all_eq_true_iff_forall_mem] at this
  intro e he hb
  have h1 := this.1 e he
  simpa [hb] using h1

theorem lexV_pair {ops : Array Oper} {N : Nat → Bool} (h : lexV ops N = true) {k j : Nat} {ok oj : Oper} (hk : ops[k]? = some ok) (hj : ops[j]? = some oj) (hlt : k < j) : anc ops k j = true ∨ (ok.apart ops oj = true ∧ (N k && N j) = false) := by
  have hk' : k < ops.size := (Array.getElem?_eq_some_iff.1 hk).1
  have hj' : j < ops.size := (Array.getElem?_eq_some_iff.1 hj).1
  have := List.all_eq_true.1 h k (by simpa using hk')
  simp only [hk, Bool.and_eq_true] at this
  have h2 := List.all_eq_true.1 this.2 j (by simpa using hj')
  simp only [hj, Bool.or_eq_true, decide_eq_true_eq, Bool.and_eq_true, Bool.not_eq_true'] at h2
  rcases h2 with h3 | h3 | ⟨h3, h4⟩
  · omega
  · exact .inl h3
  · exact .inr ⟨h3, h4⟩

section
variable {P : Program} {ann : Ann} {ops : Array Oper} {N : Nat → Bool} {S : Nat → AState} {V : Nat → AV} {W : Nat → Bool}

/-- The temporaries when some operations have been. -/
def Tm (ops : Array Oper) (V : Nat → AV) (T0 : Nat → Option AV) (L : Nat → Bool) : Nat → (Nat → Option AV)
  | 0 => T0
  | m + 1 => match ops[m]? with
    | some o => if L m then updF (Tm ops V T0 L m) o.dst (V m) else Tm ops V T0 L m
    | none => Tm ops V T0 L m

theorem Tm_all (hw : VW P ann ops N S V W) {L : Nat → Bool} : ∀ m, m ≤ ops.size → (∀ k, k < m → L k = true) → Tm ops V (lget (S 0).tmps) L m = lget (S m).tmps
  | 0, _, _ => rfl
  | m + 1, hm, hL => by
    have ho : ops[m]? = some ops[m] := by simp [show m < ops.size by omega]
    simp only [Tm, ho, hL m (by omega), if_true]
    rw [Tm_all hw m (by omega) fun k hk => hL k (by omega), hw.t m _ ho, lget_tput]

theorem Tm_low (hw : VW P ann ops N S V W) {L : Nat → Bool} {x i : Nat} (hi : i ≤ ops.size) (h : ∀ j o, j < i → ops[j]? = some o → L j = false → o.dst ≠ some x) : ∀ m, m ≤ i → Tm ops V (lget (S 0).tmps) L m x = lget (S m).tmps x
  | 0, _ => rfl
  | m + 1, hm => by
    have ho : ops[m]? = some ops[m] := by simp [show m < ops.size by omega]
    have ih := Tm_low hw hi h m (by omega)
    simp only [Tm, ho]
    rw [hw.t m _ ho, lget_tput]
    by_cases hL : L m = true
    · rw [if_pos hL]; simp only [updF, ih]
    · rw [if_neg hL, ih]
      have := h m _ (by omega) ho (by simpa using hL)
      simp [updF, this]

theorem Tm_high {L : Nat → Bool} {T0 : Nat → Option AV} {x i : Nat} (h : ∀ j o, i ≤ j → ops[j]? = some o → L j = true → o.dst ≠ some x) : ∀ m, i ≤ m → Tm ops V T0 L m x = Tm ops V T0 L i x
  | m, hm => by
    by_cases e : m = i
    · rw [e]
    · obtain ⟨m', rfl⟩ : ∃ m', m = m' + 1 := ⟨m - 1, by omega⟩
      have ih := Tm_high (T0 := T0) h m' (by omega)
      simp only [Tm]
      cases ho : ops[m']? with
      | some o =>
        simp only
        by_cases hL : L m' = true
        · rw [if_pos hL]
          have := h m' o (by omega) ho hL
          simp [updF, this, ih]
        · rw [if_neg hL, ih]
      | none => exact ih

theorem Tm_set {L L' : Nat → Bool} {T0 : Nat → Option AV} {i : Nat} {oi : Oper} (hi : ops[i]? = some oi) (hLi : L i = false) (hLi' : L' i = true) (hL : ∀ k, k ≠ i → L' k = L k)
    (h : ∀ j o, i < j → ops[j]? = some o → L j = true → ∀ t, oi.dst = some t → o.dst ≠ some t) : ∀ m, Tm ops V T0 L' m = if i < m then updF (Tm ops V T0 L m) oi.dst (V i) else Tm ops V T0 L m
  | 0 => by simp [Tm]
  | m + 1 => by
    have ih := Tm_set (T0 := T0) hi hLi hLi' hL h m
    simp only [Tm]
    by_cases e : m = i
    · subst e
      rw [hi]
      simp only [hLi', hLi, if_true, Bool.false_eq_true, if_false]
      rw [ih, if_neg (by omega), if_pos (by omega)]
    · rw [hL m e]
      split
      · rename_i o ho
        by_cases hm : i < m
        · rw [if_pos (show i < m + 1 by omega), ih, if_pos hm]
          by_cases hLm : L m = true
          · rw [if_pos hLm, if_pos hLm]
            exact updF_comm _ _ _ (h m o hm ho hLm)
          · rw [if_neg hLm, if_neg hLm]
        · rw [if_neg (show ¬ i < m + 1 by omega), ih, if_neg hm]
      · rename_i ho
        by_cases hm : i < m
        · rw [if_pos (show i < m + 1 by omega), ih, if_pos hm]
        · rw [if_neg (show ¬ i < m + 1 by omega), ih, if_neg hm]

/-- No memory is turned between two places. -/
theorem same_between (hw : VW P ann ops N S V W) {p q : Nat} (hq : q ≤ ops.size) (hpq : p ≤ q) (h : ∀ k, p ≤ k → k < q → (N k && W k) = false) : (S q).H = (S p).H := by
  obtain ⟨d, rfl⟩ : ∃ d, q = p + d := ⟨q - p, by omega⟩
  clear hpq
  induction d with
  | zero => rfl
  | succ d ih =>
    rw [← Nat.add_assoc, hw.h (p + d) (by omega) (h (p + d) (by omega) (by omega))]
    exact ih (by omega) fun k h1 h2 => h k h1 (by omega)

/-- The first place from p on, below q, where memory is turned; or there is none. -/
theorem first_turn (p : Nat) : ∀ q, (∀ k, p ≤ k → k < q → (N k && W k) = false) ∨ ∃ j, p ≤ j ∧ j < q ∧ (N j && W j) = true ∧ ∀ k, p ≤ k → k < j → (N k && W k) = false
  | 0 => .inl fun k _ h => by omega
  | q + 1 => by
    rcases first_turn p q with h | ⟨j, h1, h2, h3, h4⟩
    · by_cases e : p ≤ q ∧ (N q && W q) = true
      · exact .inr ⟨q, e.1, by omega, e.2, h⟩
      · refine .inl fun k h1 h2 => ?_
        by_cases ek : k = q
        · subst ek
          have := not_and.1 e h1
          simpa using this
        · exact h k h1 (by omega)
    · exact .inr ⟨j, h1, by omega, h3, h4⟩

theorem last_turn (p : Nat) : ∀ q, (∀ k, p ≤ k → k < q → (N k && W k) = false) ∨ ∃ j, p ≤ j ∧ j < q ∧ (N j && W j) = true ∧ ∀ k, j < k → k < q → (N k && W k) = false
  | 0 => .inl fun k _ h => by omega
  | q + 1 => by
    by_cases e : p ≤ q ∧ (N q && W q) = true
    · exact .inr ⟨q, e.1, by omega, e.2, fun k h1 h2 => by omega⟩
    · rcases last_turn p q with h | ⟨j, h1, h2, h3, h4⟩
      · refine .inl fun k h1 h2 => ?_
        by_cases ek : k = q
        · subst ek
          have := not_and.1 e h1
          simpa using this
        · exact h k h1 (by omega)
      · refine .inr ⟨j, h1, by omega, h3, fun k h5 h6 => ?_⟩
        by_cases ek : k = q
        · subst ek
          have := not_and.1 e (by omega)
          simpa using this
        · exact h4 k h5 (by omega)

theorem vw_any (hlex : lexV ops N = true) (hw : VW P ann ops N S V W) : ∀ (fuel : Nat) (listed : Array Bool) (T : Nat → Option AV) (H : AH), listed.size = ops.size → Closed ops listed → listed.toList.count false ≤ fuel →
    T = Tm ops V (lget (S 0).tmps) (fun k => listed.getD k false) ops.size →
    (∃ p, p ≤ ops.size ∧ H = (S p).H ∧ ∀ k, k < ops.size → (N k && W k) = true → (listed.getD k false = true ↔ k < p)) →
    anyA P ann ops N (fun T H => T = lget (S ops.size).tmps ∧ H = (S ops.size).H) fuel listed T H := by
  intro fuel
  -- all is listed where nothing is ready
  have fin : ∀ (listed : Array Bool) (T : Nat → Option AV) (H : AH), listed.size = ops.size → Region.ready .any ops listed = [] → T = Tm ops V (lget (S 0).tmps) (fun k => listed.getD k false) ops.size →
      (∃ p, p ≤ ops.size ∧ H = (S p).H ∧ ∀ k, k < ops.size → (N k && W k) = true → (listed.getD k false = true ↔ k < p)) → T = lget (S ops.size).tmps ∧ H = (S ops.size).H := by
    intro listed T H hsz hr hT ⟨p, hp, hH, hpre⟩
    have hall : ∀ k, k < ops.size → listed.getD k false = true := by
      intro k
      induction k using Nat.strongRecOn with
      | _ k ih =>
        intro hk
        by_cases e : listed.getD k false = true
        · exact e
        · exfalso
          have ho : ops[k]? = some ops[k] := by simp [hk]
          have : k ∈ Region.ready .any ops listed := by
            rw [mem_ready]
            refine ⟨?_, _, ho, fun ed he hb => ?_⟩
            · have hk' : k < listed.size := by omega
              simp [hk'] at e ⊢
              exact e
            · have := lexV_edges hlex ho ed he hb
              exact ih _ this (by omega)
          rw [hr] at this
          cases this
    refine ⟨by rw [hT, Tm_all hw _ (Nat.le_refl _) hall], ?_⟩
    rw [hH]
    exact (same_between hw (Nat.le_refl _) hp fun k h1 h2 => by
      cases hnw : (N k && W k) with
      | false => rfl
      | true => have := (hpre k h2 hnw).1 (hall k h2); omega).symm
  induction fuel with
  | zero =>
    intro listed T H hsz hc hcnt hT hp
    have hr : Region.ready .any ops listed = [] := by
      rw [List.eq_nil_iff_forall_not_mem]
      intro j hj
      obtain ⟨h1, o, ho, _⟩ := mem_ready.1 hj
      have hjs : j < listed.size := by rw [hsz]; exact (Array.getElem?_eq_some_iff.1 ho).1
      have : false ∈ listed.toList := by
        simp [hjs] at h1
        rw [← h1]
        simp
      have := List.count_pos_iff.2 this
      omega
    exact ⟨hr, fin _ _ _ hsz hr hT hp⟩
  | succ fuel ih =>
    intro listed T H hsz hc hcnt hT hp
    refine ⟨fun hr => fin _ _ _ hsz hr hT hp, fun i hi => ?_⟩
    obtain ⟨p, hp1, hH, hpre⟩ := hp
    obtain ⟨hun, oi, hoi, hall⟩ := mem_ready.1 hi
    have his : i < ops.size := (Array.getElem?_eq_some_iff.1 hoi).1
    have hil : i < listed.size := by omega
    have hunf : listed.getD i false = false := by simp [hil] at hun ⊢; exact hun
    -- what must have come ahead of i has; what must come behind it has not
    have pre : ∀ j, anc ops j i = true → listed.getD j false = true := fun j ha => anc_listed hc i oi j hoi hall ha
    have behind : ∀ j oj, ops[j]? = some oj → listed.getD j false = true → anc ops i j = false := fun j oj hj hl => by
      cases ha : anc ops i j with
      | false => rfl
      | true =>
        have := anc_listed hc j oj i hj (hc j oj hj hl) ha
        rw [hunf] at this
        cases this
    -- i's operands
    have hlook : ∀ x ∈ oi.looksAt ops, T x = lget (S i).tmps x := by
      intro x hx
      rw [hT, Tm_high (i := i) (fun j o hij ho hl => ?_) _ (by omega)]
      · refine Tm_low hw (by omega) (fun j o hji ho hl => ?_) i (Nat.le_refl _)
        rcases lexV_pair hlex ho hoi hji with h1 | ⟨h1, _⟩
        · have := pre j h1; rw [show listed.getD j false = false from hl] at this; cases this
        · intro e; exact (Oper.apart_spec h1).1 x e hx
      · by_cases e : j = i
        · subst e; rw [show listed.getD j false = true from hl] at hunf; cases hunf
        · rcases lexV_pair hlex hoi ho (by omega) with h1 | ⟨h1, _⟩
          · rw [behind j o ho hl] at h1; cases h1
          · intro e'; exact (Oper.apart_spec h1).2.2 x e' hx
    have hwant : wantF ops oi T = some (W i) := by
      rw [← hw.w i oi hoi]
      unfold wantF
      cases hg : oi.guard with
      | none => rfl
      | some jw =>
        obtain ⟨j, wt⟩ := jw
        simp only
        congr 1
        unfold guardF
        cases ht : (ops[j]?).bind (·.dst) with
        | none => rfl
        | some t => simp only [hlook t (by simp [Oper.looksAt, hg, ht])]
    have hops : ∀ x ∈ oi.op.operands, avalF T x = aval (S i).tmps x := fun x hx => by
      rw [aval_eq]
      cases x with
      | tmp t => simp only [avalF, hlook t (List.mem_append_left _ (List.mem_filterMap.2 ⟨.tmp t, by simpa using hx, rfl⟩))]
      | _ => rfl
    -- behind the step
    have hsz' : (listed.setIfInBounds i true).size = ops.size := by simpa using hsz
    have hcnt' : (listed.setIfInBounds i true).toList.count false ≤ fuel := by
      rw [Array.toList_setIfInBounds, List.count_set (by simpa using hil)]
      have h1 : listed.toList[i]'(by simpa using hil) = false := by simp [hil] at hun; simpa using hun
      have hpos : 0 < listed.toList.count false := List.count_pos_iff.2 (by rw [← h1]; exact List.getElem_mem _)
      simp [h1] at hpos ⊢
      have : Array.count false listed = listed.toList.count false := by simp
      omega
    have hT' : ∀ v, v = V i → updF T oi.dst v = Tm ops V (lget (S 0).tmps) (fun k => (listed.setIfInBounds i true).getD k false) ops.size := fun v hv => by
      rw [Tm_set (L := fun k => listed.getD k false) hoi hunf (by simp [hil]) (fun k hk => getD_set_ne false (Ne.symm hk)) ?_ ops.size, if_pos his, ← hT, hv]
      intro j o hij ho hl t ht
      rcases lexV_pair hlex hoi ho hij with h1 | ⟨h1, _⟩
      · rw [behind j o ho hl] at h1; cases h1
      · exact (Oper.apart_spec h1).2.1 t ht
    have hset : ∀ k, k ≠ i → (listed.setIfInBounds i true).getD k false = listed.getD k false := fun k hk => getD_set_ne false (Ne.symm hk)
    unfold stepA
    simp only [hoi, hwant]
    cases hWi : W i with
    | false =>
      have hvi := hw.v i his hWi
      refine ih _ _ _ hsz' (closed_set hc hi) hcnt' (hT' _ hvi.symm) ⟨p, hp1, hH, fun k hk hnw => ?_⟩
      have hki : k ≠ i := fun e => by subst e; simp [hWi] at hnw
      rw [hset k hki]
      exact hpre k hk hnw
    | true =>
      cases hNi : N i with
      | false =>
        simp only [Bool.false_eq_true, if_false]
        refine ⟨V i, ?_, ih _ _ _ hsz' (closed_set hc hi) hcnt' (hT' _ rfl) ⟨p, hp1, hH, fun k hk hnw => ?_⟩⟩
        · refine aQuiet_congr (fun x hx => (hops x hx).symm) ?_
          rw [hH]
          by_cases hpi : p ≤ i
          · rcases first_turn (N := N) (W := W) p i with h1 | ⟨j, h1, h2, h3, h4⟩
            · rw [← same_between hw (by omega) hpi h1]
              exact hw.q i oi hoi hWi hNi
            · rw [← same_between hw (by omega) h1 h4]
              refine hw.lo i j oi hoi h2 hWi hNi h3 ?_
              cases ha : anc ops j i with
              | false => rfl
              | true => have := (hpre j (by omega) h3).1 (pre j ha); omega
          · rcases last_turn (N := N) (W := W) i p with h1 | ⟨j, h1, h2, h3, h4⟩
            · rw [same_between hw hp1 (by omega) h1]
              exact hw.q i oi hoi hWi hNi
            · have hji : j ≠ i := fun e => by subst e; simp [hNi] at h3
              rw [same_between hw hp1 (p := j + 1) (by omega) fun k h5 h6 => h4 k (by omega) h6]
              refine hw.hi i j oi hoi (by omega) (by omega) hWi hNi h3 ?_
              exact behind j ops[j] (by simp [show j < ops.size by omega]) ((hpre j (by omega) h3).2 h2)
        · have hki : k ≠ i := fun e => by subst e; simp [hNi] at hnw
          rw [hset k hki]
          exact hpre k hk hnw
      | true =>
        simp only [if_true]
        -- all turns ahead of i have been, none behind it
        have turns : ∀ k, k < ops.size → (N k && W k) = true → (listed.getD k false = true ↔ k < i) := fun k hk hnw => by
          have hok : ops[k]? = some ops[k] := by simp [hk]
          simp only [Bool.and_eq_true] at hnw
          constructor
          · intro hl
            by_cases e : k < i
            · exact e
            · have hne : k ≠ i := fun e => by subst e; rw [hunf] at hl; cases hl
              rcases lexV_pair hlex hoi hok (by omega) with h1 | ⟨_, h1⟩
              · rw [behind k _ hok hl] at h1; cases h1
              · simp [hNi, hnw.1] at h1
          · intro hlt
            rcases lexV_pair hlex hok hoi hlt with h1 | ⟨_, h1⟩
            · exact pre k h1
            · simp [hNi, hnw.1] at h1
        have hpi : p ≤ i := by
          rcases Nat.lt_or_ge i p with h1 | h1
          · have := (hpre i his (by simp [hNi, hWi])).2 h1
            rw [hunf] at this; cases this
          · exact h1
        have hHi : H = (S i).H := by
          rw [hH]
          exact (same_between hw (by omega) hpi fun k h1 h2 => by
            cases hnw : (N k && W k) with
            | false => rfl
            | true =>
              have h3 := (turns k (by omega) hnw).2 h2
              have := (hpre k (by omega) hnw).1 h3
              omega).symm
        rw [hHi]
        refine aOp_mono (fun v H' hv => ?_) (aOp_congr (fun x hx => (hops x hx).symm) (hw.n i oi hoi hWi hNi))
        refine ih _ _ _ hsz' (closed_set hc hi) hcnt' (hT' v hv.1) ⟨i + 1, by omega, hv.2, fun k hk hnw => ?_⟩
        by_cases hki : k = i
        · subst hki
          simp [hil]
        · rw [hset k hki, turns k hk hnw]
          omega

theorem Ok.drawV {B : Base} {n : Nat} {s : AState} {Q : Exit → AState → Prop} {id : Nat} (ann : Ann) (N : Nat → Bool) (S : Nat → AState) (V : Nat → AV) (W : Nat → Bool) (hm : P.follows .mixedOrders = true) (hd : dstsIn n ops.toList = true) (hlex : lexV ops N = true)
    (hw : VW P ann ops N S V W) (h0 : S 0 = s) (h : Q .normal (S ops.size)) : Ok P B n (.region id ops true) s Q := fun a w hrel => by
  have rep : ∀ k, (Array.replicate ops.size false).getD k false = false := fun k => by
    rw [Array.getD_eq_getD_getElem?, Array.getElem?_replicate]
    split <;> rfl
  have hany := vw_any hlex hw ops.size (Array.replicate ops.size false) (lget s.tmps) s.H (by simp) (by intro j o ho hl; rw [rep] at hl; cases hl) (by simp) (by
    rw [← h0]
    have : ∀ m, Tm ops V (lget (S 0).tmps) (fun k => (Array.replicate ops.size false).getD k false) m = lget (S 0).tmps := by
      intro m
      induction m with
      | zero => rfl
      | succ m ih =>
        simp only [Tm]
        split
        · rw [if_neg (by rw [rep]; simp), ih]
        · exact ih
    rw [this]) ⟨0, by omega, by rw [h0], fun k hk _ => by rw [rep]; simp⟩
  refine wp_region_any hm ?_
  have := anyA_sound (B := B) (n := n) (Q' := post B n Q) hd (fun T H a w ⟨h1, h2⟩ hR => ⟨_, h, by unfold RelN; rw [← h1, ← h2]; exact hR⟩) _ _ _ _ a _ (RelF.drew hrel) hany
  simpa using this
end
end Go.AL
namespace Go.AL
open Go

/-- A value whose objects are never written again. -/
def frz (h : List AObj) : Nat → AV → Option AV
  | 0, _ => none
  | d + 1, v => match v with
    | .sl (.hp i) g sz off len => match h[i]? with
      | some (.cells g' e xs) => if g = g' then (if len = 0 then some (.vs 0 []) else if off + len * sz ≤ xs.length then (((xs.drop off).take (len * sz)).mapM (frz h d)).map (.vs len) else none) else none
      | _ => none
    | .ptr (.hp i) g off => match h[i]? with
      | some (.cells g' e xs) => if g = g' then ((xs.drop off).mapM (frz h d)).map .vp else none
      | _ => none
    | .vs n xs => (xs.mapM (frz h d)).map (.vs n)
    | .vp xs => (xs.mapM (frz h d)).map .vp
    | .agg xs => (xs.mapM (frz h d)).map .agg
    | .tup xs => (xs.mapM (frz h d)).map .tup
    | .bool b => some (.bool b)
    | .int k n => some (.int k n)
    | .str s => some (.str s)
    | .nil => some .nil
    | .nilp => some .nilp
    | .nilmap => some .nilmap
    | .fn f xs ys => match xs.mapM (frz h d), ys.mapM (frz h d) with
      | some xs', some ys' => some (.fn f xs' ys')
      | _, _ => none
    | _ => none

theorem mapM_get {α β : Type} {f : α → Option β} : ∀ {xs : List α} {ys : List β}, xs.mapM f = some ys → ys.length = xs.length ∧ ∀ (j : Nat) (y : β), ys[j]? = some y → ∃ x, xs[j]? = some x ∧ f x = some y
  | [], ys, h => by simp at h; subst h; simp
  | x :: xs, ys, h => by
    simp only [List.mapM_cons, Option.bind_eq_bind, Option.bind_eq_some_iff, Option.pure_def, Option.some.injEq] at h
    obtain ⟨y, h1, ys', h2, rfl⟩ := h
    obtain ⟨h3, h4⟩ := mapM_get h2
    refine ⟨by simp [h3], fun j z hz => ?_⟩
    cases j with
    | zero => simp at hz; subst hz; exact ⟨x, by simp, h1⟩
    | succ j => obtain ⟨x', h5, h6⟩ := h4 j z (by simpa using hz); exact ⟨x', by simpa using h5, h6⟩

theorem frz_sound {B : Base} {L : Lay} {S S' : Nat → Prop} {h : List AObj} {w : World} (hr : HR B L S ⟨[], h⟩ w) (hS : ∀ b, S b → S' b) (hL : ∀ k r b, L k = some r → r.blk = some b → S' b) (L' : Lay) :
    ∀ (d : Nat) (v x : AV) (u : Value), frz h d v = some x → VR L S w v u → VR L' S' w x u := by
  intro d
  induction d with
  | zero => intro v x u h1; simp [frz] at h1
  | succ d ih =>
    have lift : ∀ {xs ys : List AV} {us : List Value}, xs.mapM (frz h d) = some ys → us.length = xs.length → (∀ (j : Nat) (x : AV) (u : Value), xs[j]? = some x → us[j]? = some u → VR L S w x u) →
        us.length = ys.length ∧ ∀ (j : Nat) (x : AV) (u : Value), ys[j]? = some x → us[j]? = some u → VR L' S' w x u := fun hm hl hv => by
      obtain ⟨h1, h2⟩ := mapM_get hm
      refine ⟨by omega, fun j y u hy hu => ?_⟩
      obtain ⟨x, h3, h4⟩ := h2 j y hy
      exact ih x y u h4 (hv j x u h3 hu)
    intro v x u h1 hv
    unfold frz at h1
    split at h1
    · rename_i i g sz off len
      split at h1
      · rename_i g' e xs hi
        split at h1
        · rename_i hg
          subst hg
          have hget : (⟨[], h⟩ : AH).get (.hp i) = some (.cells g e xs) := hi
          split at h1
          · rename_i h0
            subst h0
            cases h1
            cases hv with
            | slStale hL' hg a n c =>
              obtain ⟨r, h2, h3⟩ := hr.obj _ _ hget
              rw [hL'] at h2; cases h2
              have := h3.gen
              simp only [AObj.gen] at this
              omega
            | sl hL' hg hb hcap hlen => exact .vs0 _ _
            | slEnd hL' hg hoff a => exact .vs0 _ _
            | slNone hL' hg hb => exact .vs0 _ _
          · rename_i h0
            split at h1
            · rename_i hle
              simp only [Option.map_eq_some_iff] at h1
              obtain ⟨ys, h2, rfl⟩ := h1
              cases hv with
              | slStale hL' hg a n c =>
                obtain ⟨r, h2, h3⟩ := hr.obj _ _ hget
                rw [hL'] at h2; cases h2
                have := h3.gen
                simp only [AObj.gen] at this
                omega
              | @sl _ _ _ _ _ r b cap hL' hg hb hcap hlen =>
                obtain ⟨b', o', us, he, hc⟩ := pcells_sound hr (p := .ptr (.hp i) g off) (xs := xs.drop off) (by simp [pcells, hget]) (VR.ptr hL' hg hb)
                cases he
                have hc' := hc.take (len * sz)
                obtain ⟨h3, h4⟩ := lift h2 hc'.len hc'.val
                exact .vs (hL _ _ _ hL' hb) hlen _ h3 hc'.cell h4
              | slEnd hL' hg hoff a => exact absurd rfl h0
              | slNone hL' hg hb => exact absurd rfl h0
            · cases h1
        · cases h1
      · cases h1
    · rename_i i g off
      split at h1
      · rename_i g' e xs hi
        split at h1
        · rename_i hg
          subst hg
          have hget : (⟨[], h⟩ : AH).get (.hp i) = some (.cells g e xs) := hi
          simp only [Option.map_eq_some_iff] at h1
          obtain ⟨ys, h2, rfl⟩ := h1
          cases hv with
          | ptrStale hL' hg a =>
            obtain ⟨r, h2, h3⟩ := hr.obj _ _ hget
            rw [hL'] at h2; cases h2
            have := h3.gen
            simp only [AObj.gen] at this
            omega
          | ptr hL' hg hb =>
            obtain ⟨b', o', us, he, hc⟩ := pcells_sound hr (p := .ptr (.hp i) g off) (xs := xs.drop off) (by simp [pcells, hget]) (VR.ptr hL' hg hb)
            cases he
            obtain ⟨h3, h4⟩ := lift h2 hc.len hc.val
            exact .vp (hL _ _ _ hL' hb) _ h3 hc.cell h4
        · cases h1
      · cases h1
    · rename_i n xs
      simp only [Option.map_eq_some_iff] at h1
      obtain ⟨ys, h2, rfl⟩ := h1
      cases hv with
      | vs0 a cap => simp at h2; subst h2; exact .vs0 _ _
      | vs hSb hcap us hl hc hv => obtain ⟨h3, h4⟩ := lift h2 hl hv; exact .vs (hS _ hSb) hcap us h3 hc h4
    · rename_i xs
      simp only [Option.map_eq_some_iff] at h1
      obtain ⟨ys, h2, rfl⟩ := h1
      cases hv with
      | vp hSb us hl hc hv => obtain ⟨h3, h4⟩ := lift h2 hl hv; exact .vp (hS _ hSb) us h3 hc h4
    · rename_i xs
      simp only [Option.map_eq_some_iff] at h1
      obtain ⟨ys, h2, rfl⟩ := h1
      cases hv with
      | agg us hl hv => obtain ⟨h3, h4⟩ := lift h2 hl hv; exact .agg us h3 h4
    · rename_i xs
      simp only [Option.map_eq_some_iff] at h1
      obtain ⟨ys, h2, rfl⟩ := h1
      cases hv with
      | tup us hl hv => obtain ⟨h3, h4⟩ := lift h2 hl hv; exact .tup us h3 h4
    · cases h1; cases hv; exact .bool _
    · cases h1; cases hv; exact .int _ _
    · cases h1; cases hv; exact .str _
    · cases h1; cases hv; exact .nil
    · cases h1; cases hv; exact .nilp
    · cases h1; cases hv; exact .nilmap
    · rename_i f xs ys
      split at h1
      · rename_i xs' ys' h2 h3
        cases h1
        cases hv with
        | fn us ws hl hl' hv hv' =>
          obtain ⟨h4, h5⟩ := lift h2 hl hv
          obtain ⟨h6, h7⟩ := lift h3 hl' hv'
          exact .fn us ws h4 h6 h5 h7
      · cases h1
    · cases h1

def noKey : Key → Bool := fun _ => false
def AV.pure (x : AV) : Bool := x.inK noKey

theorem Lay.res_noKey (L : Lay) : L.res noKey = fun _ => none := by funext k; simp [Lay.res, noKey]

/-- Shown over the empty heap, with an answer that is frozen: it is so over every heap, which stays. -/
theorem Fn.of_empty {P : Program} {f : FuncId} {args : List AV} {r : AV} {d : Nat} (ha : args.all AV.pure = true) (h : FnQ P f args [] (fun r' h' => frz h' d r' = some r)) : Fn P f args r := by
  intro hp L S w us hloc hr hv
  have hv0 : VRs (fun _ => none) S w args us := ⟨hv.1, fun j x u h1 h2 => by
    have := (hv.2 j x u h1 h2).res (dom := noKey) (List.all_eq_true.1 ha x (List.mem_of_getElem? h1))
    rwa [Lay.res_noKey] at this⟩
  have hr0 : HR (Base.of (fun _ => none) S w) (fun _ => none) S ⟨[], []⟩ w :=
    { obj := fun k o ho => by cases k <;> simp [AH.get, lget] at ho
      dom := fun k r hk => by cases hk
      inj := fun k1 k2 r1 r2 b h1 => by cases h1
      lt := fun k r b h1 => by cases h1
      stab := fun k r b h1 => by cases h1
      own := fun k r b h1 => by cases h1
      Slt := hr.Slt
      Sb := fun b hb => .inl hb
      S0 := fun b hb => hb
      os := rfl, tape := rfl, output := rfl, size := Nat.le_refl _
      keep := fun b _ _ => rfl
      lay := fun i r h => by cases h }
  refine (h (fun _ => none) S w us (fun κ => rfl) hr0 hv0).mono ?_
  rintro e w' ⟨u, r', h', L', S', rfl, hq, hvr, hr', hloc'⟩
  have hkeep : ∀ b, b < w.heap.size → w'.heap[b]? = w.heap[b]? := fun b hb => hr'.keep b hb (fun ⟨i, r, h1, _⟩ => by cases h1)
  have hS' : ∀ b, S b → S' b := hr'.S0
  have hnew : ∀ k r b, L' k = some r → r.blk = some b → w.heap.size ≤ b ∧ b < w'.heap.size := fun k r b h1 h2 => by
    refine ⟨?_, hr'.lt k r b h1 h2⟩
    rcases hr'.own k r b h1 h2 with ⟨i, r, h3, _⟩ | h3
    · cases h3
    · exact h3
  have hSS : ∀ b, S' b → S b ∨ w.heap.size ≤ b := fun b hb => by
    rcases hr'.Sb b hb with h1 | ⟨i, r, h3, _⟩ | h1
    · exact .inl h1
    · cases h3
    · exact .inr h1
  refine ⟨u, r, hp, L, fun b => S' b ∨ (w.heap.size ≤ b ∧ b < w'.heap.size), rfl, ⟨rfl, rfl⟩, ?_, ?_, hloc⟩
  · exact frz_sound hr' (fun b hb => .inl hb) (fun k r b h1 h2 => .inr (hnew k r b h1 h2)) L d r' r u hq hvr
  · have hK : Kept S w w' := fun b hb => hkeep b (hr.Slt b hb)
    exact
    { obj := fun k o ho => by
        obtain ⟨r, hL, hor⟩ := hr.obj k o ho
        exact ⟨r, hL, hor.mono (Lay.le_refl _) (fun b hb => .inl (hS' b hb)) hK fun b hb => hkeep b (hr.lt k r b hL hb)⟩
      dom := hr.dom
      inj := hr.inj
      lt := fun k r b h1 h2 => Nat.lt_of_lt_of_le (hr.lt k r b h1 h2) hr'.size
      stab := fun k r b h1 h2 hb => by
        have hlt := hr.lt k r b h1 h2
        rcases hb with hb | hb
        · rcases hSS b hb with h3 | h3
          · exact hr.stab k r b h1 h2 h3
          · omega
        · omega
      own := hr.own
      Slt := fun b hb => by
        rcases hb with hb | hb
        · exact hr'.Slt b hb
        · exact hb.2
      Sb := fun b hb => by
        rcases hb with hb | hb
        · rcases hSS b hb with h3 | h3
          · exact .inl h3
          · exact .inr (.inr h3)
        · exact .inr (.inr hb.1)
      S0 := fun b hb => .inl (hS' b hb)
      os := hr'.os, tape := hr'.tape, output := hr'.output, size := hr'.size
      keep := fun b hb _ => hkeep b hb
      lay := fun i r h => ⟨r, h, Nat.le_refl _, fun _ => rfl⟩ }
end Go.AL
namespace Go.AL
open Go

def Key.beq : Key → Key → Bool
  | .loc a, .loc b => Nat.beq a b
  | .hp a, .hp b => Nat.beq a b
  | _, _ => false
theorem Key.beq_eq {a b : Key} (h : a.beq b = true) : a = b := by
  cases a <;> cases b <;> simp [Key.beq] at h <;> simp [h]

mutual
def AV.beq : AV → AV → Bool
  | .bool a, .bool b => a == b
  | .int k a, .int k' b => decide (k = k') && decide (a = b)
  | .str a, .str b => a.data.toList == b.data.toList
  | .nil, .nil => true
  | .vs n xs, .vs m ys => Nat.beq n m && beqs xs ys
  | .vp xs, .vp ys => beqs xs ys
  | .sl k g sz off len, .sl k' g' sz' off' len' => k.beq k' && Nat.beq g g' && Nat.beq sz sz' && Nat.beq off off' && Nat.beq len len'
  | .ptr k g off, .ptr k' g' off' => k.beq k' && Nat.beq g g' && Nat.beq off off'
  | .nilp, .nilp => true
  | .map k g, .map k' g' => k.beq k' && Nat.beq g g'
  | .nilmap, .nilmap => true
  | .fn f xs ys, .fn f' xs' ys' => decide (f = f') && beqs xs xs' && beqs ys ys'
  | .agg xs, .agg ys => beqs xs ys
  | .tup xs, .tup ys => beqs xs ys
  | .undef, .undef => true
  | _, _ => false
def beqs : List AV → List AV → Bool
  | [], [] => true
  | x :: xs, y :: ys => x.beq y && beqs xs ys
  | _, _ => false
end

theorem data_inj {a b : ByteArray} (h : a.data = b.data) : a = b := by
  cases a; cases b
  simp_all

mutual
theorem AV.beq_eq : ∀ {a b : AV}, a.beq b = true → a = b
  | .bool a, y, h => by cases y <;> simp [AV.beq] at h; rw [h]
  | .int k a, y, h => by cases y <;> simp [AV.beq] at h; rw [h.1, h.2]
  | .str a, y, h => by cases y <;> simp [AV.beq] at h; rw [data_inj h]
  | .nil, y, h => by cases y <;> simp [AV.beq] at h; rfl
  | .vs n xs, y, h => by cases y <;> simp [AV.beq] at h; rw [h.1, beqs_eq h.2]
  | .vp xs, y, h => by cases y <;> simp [AV.beq] at h; rw [beqs_eq h]
  | .sl k g sz off len, y, h => by cases y <;> simp [AV.beq] at h; obtain ⟨⟨⟨⟨h1, h2⟩, h3⟩, h4⟩, h5⟩ := h; rw [Key.beq_eq h1, h2, h3, h4, h5]
  | .ptr k g off, y, h => by cases y <;> simp [AV.beq] at h; obtain ⟨⟨h1, h2⟩, h3⟩ := h; rw [Key.beq_eq h1, h2, h3]
  | .nilp, y, h => by cases y <;> simp [AV.beq] at h; rfl
  | .map k g, y, h => by cases y <;> simp [AV.beq] at h; rw [Key.beq_eq h.1, h.2]
  | .nilmap, y, h => by cases y <;> simp [AV.beq] at h; rfl
  | .fn f xs ys, y, h => by cases y <;> simp [AV.beq] at h; obtain ⟨⟨h1, h2⟩, h3⟩ := h; rw [h1, beqs_eq h2, beqs_eq h3]
  | .agg xs, y, h => by cases y <;> simp [AV.beq] at h; rw [beqs_eq h]
  | .tup xs, y, h => by cases y <;> simp [AV.beq] at h; rw [beqs_eq h]
  | .undef, y, h => by cases y <;> simp [AV.beq] at h; rfl
theorem beqs_eq : ∀ {xs ys : List AV}, beqs xs ys = true → xs = ys
  | [], ys, h => by cases ys <;> simp [beqs] at h; rfl
  | x :: xs, ys, h => by
    cases ys with
    | nil => simp [beqs] at h
    | cons y ys => simp [beqs] at h; rw [AV.beq_eq h.1, beqs_eq h.2]
end
end Go.AL
namespace Go.AL
open Go

/-- Calls of pure functions, told by the text. -/
def pureCall (pf : FuncId → Bool) (o : Oper) : Bool :=
  match o.op with
  | .call { callee := .value (.func f), .. } => pf f
  | _ => false
def nOf (pf : FuncId → Bool) (ops : Array Oper) (k : Nat) : Bool := match ops[k]? with | some o => mayTurn o && !pureCall pf o | none => true

structure Rec where
  o : Oper
  s : AState
  v : AV
  w : Bool

section
variable (P : Program) (call : Know) (pf : FuncId → Bool) (ann : Ann)

def xtOps (ops : Array Oper) : List Oper → AState → Option (List Rec × AState)
  | [], s => some ([], s)
  | o :: rest, s => match wantF ops o (lget s.tmps) with
    | some true => match xOp P call ann o (aval s.tmps) s.H with
      | some (v, H') => match xtOps ops rest ⟨tput s.tmps o.dst v, H'⟩ with
        | some (tr, sf) => some (⟨o, s, v, true⟩ :: tr, sf)
        | none => none
      | none => none
    | some false => match xtOps ops rest ⟨tput s.tmps o.dst .undef, s.H⟩ with
      | some (tr, sf) => some (⟨o, s, .undef, false⟩ :: tr, sf)
      | none => none
    | none => none

def stAt (tr : List Rec) (sf : AState) (k : Nat) : AState := match tr[k]? with | some r => r.s | none => sf

/-- Does the operation yield the same over another heap? -/
def sameAt (r : Rec) (H : AH) : Bool := match aEff P ann r.o (aval r.s.tmps) H with
  | some (v, _) => v.beq r.v
  | none => false

/-- The pairs of a quiet operation that looks at memory, and one that may turn it, that stand in no order. -/
def needs (ops : Array Oper) : List (Nat × Nat) := (List.range ops.size).flatMap fun k => match ops[k]? with
  | none => []
  | some ok => if nOf pf ops k || imm ok.op || pureCall pf ok then [] else
    ((List.range ops.size).filter fun j => nOf pf ops j && ((decide (j < k) && !anc ops j k) || (decide (k < j) && !anc ops k j))).map fun j => (k, j)

/-- All quiet operations yield the same over all heaps that they may meet. -/
def xChk (ops : Array Oper) (tr : List Rec) (sf : AState) : Bool := (needs pf ops).all fun p => match tr[p.1]?, tr[p.2]? with
  | some rk, some rj => !rk.w || !rj.w || (if p.2 < p.1 then sameAt P ann rk rj.s.H else sameAt P ann rk (stAt tr sf (p.2 + 1)).H)
  | _, _ => false

def yCode (fuel : Nat) : Code → AState → Option (Exit × AState)
  | .skip, s => some (.normal, s)
  | .label _, s => some (.normal, s)
  | .exit id, s => some (.exit id, s)
  | .ret, s => some (.ret, s)
  | .region _ ops draw, s => if draw then
      (if lexV ops (nOf pf ops) then (match xtOps P call ann ops ops.toList s with | some (tr, sf) => if xChk P pf ann ops tr sf then some (.normal, sf) else none | none => none) else none)
    else (match xOps P call ann ops ops.toList s with | some s' => some (.normal, s') | none => none)
  | .seq a b, s => match yCode fuel a s with
    | some (.normal, s') => yCode fuel b s'
    | r => r
  | .cond c a b, s => match aval s.tmps c with
    | .bool t => if t then yCode fuel a s else yCode fuel b s
    | _ => none
  | .block id c, s => match yCode fuel c s with
    | some (.exit id', s') => if id' = id then some (.normal, s') else some (.exit id', s')
    | r => r
  | .loop c, s => xLoop (yCode fuel c) fuel s
  | _, _ => none
end

/-- Where calls of some functions are pure: they yield one answer over every heap. -/
def PureOK (P : Program) (call : Know) (pf : FuncId → Bool) : Prop := ∀ f args h r h', pf f = true → call f args h = some (r, h') → h' = h ∧ Fn P f args r

section
variable {P : Program} {call : Know} {pf : FuncId → Bool} {ann : Ann}

theorem pureCall_quiet (hp : PureOK P call pf) {o : Oper} {ρ : Operand → AV} {H H' : AH} {v : AV} (hm : pureCall pf o = true) (hρ : ∀ f, ρ (.func f) = .fn f [] []) (h : xOp P call ann o ρ H = some (v, H')) : H' = H ∧ ∀ H2, aQuiet P ann o ρ H2 v := by
  unfold pureCall at hm
  obtain ⟨dst, op, type, pos, after, guard⟩ := o
  simp only at hm
  split at hm
  · rename_i f args at' hop
    simp only [xOp, hρ] at h
    split at h
    · rename_i hent
      simp only [Bool.and_eq_true] at hent
      split at h
      · rename_i r h' hcall
        cases h
        obtain ⟨h1, h2⟩ := hp _ _ _ _ _ hm hcall
        subst h1
        refine ⟨rfl, fun H2 => ?_⟩
        simp only [aQuiet, hρ]
        exact ⟨hent.1, hent.2, h2 H2.heap⟩
      · cases h
    · cases h
  · cases hm

theorem quiet_of (hp : PureOK P call pf) (hla : ann.la = []) {o : Oper} {ρ : Operand → AV} {H H' : AH} {v : AV} (hm : (mayTurn o && !pureCall pf o) = false) (hρ : ∀ f, ρ (.func f) = .fn f [] []) (h : xOp P call ann o ρ H = some (v, H')) : H' = H ∧ aQuiet P ann o ρ H v := by
  by_cases hp' : pureCall pf o = true
  · obtain ⟨h1, h2⟩ := pureCall_quiet hp hp' hρ h; exact ⟨h1, h2 H⟩
  · exact aQuiet_of hla (by simpa [hp'] using hm) h

theorem sameAt_sound (hla : ann.la = []) {r : Rec} {H2 : AH} (hm' : mayTurn r.o = false) (h : sameAt P ann r H2 = true) : aQuiet P ann r.o (aval r.s.tmps) H2 r.v := by
  unfold sameAt at h
  split at h
  · rename_i v H3 he
    have e1 := aEff_quiet hla hm' he
    have e2 := AV.beq_eq h
    subst e1
    rw [e2] at he
    unfold aQuiet
    split
    · rename_i f args at' hop
      unfold mayTurn at hm'
      rw [hop] at hm'
      cases hm'
    · exact he
  · cases h

/-- What stands in a walk's list. -/
theorem xtOps_facts {ops : Array Oper} : ∀ (l : List Oper) (s : AState) (tr : List Rec) (sf : AState), xtOps P call ann ops l s = some (tr, sf) →
    tr.length = l.length ∧ stAt tr sf 0 = s ∧ ∀ (k : Nat) (r : Rec), tr[k]? = some r → l[k]? = some r.o ∧ wantF ops r.o (lget r.s.tmps) = some r.w ∧ (stAt tr sf (k + 1)).tmps = tput r.s.tmps r.o.dst r.v ∧
      (r.w = false → r.v = .undef ∧ (stAt tr sf (k + 1)).H = r.s.H) ∧ (r.w = true → xOp P call ann r.o (aval r.s.tmps) r.s.H = some (r.v, (stAt tr sf (k + 1)).H))
  | [], s, tr, sf, h => by simp only [xtOps, Option.some.injEq, Prod.mk.injEq] at h; obtain ⟨rfl, rfl⟩ := h; simp [stAt]
  | o :: l, s, tr, sf, h => by
    simp only [xtOps] at h
    have cons : ∀ (s' : AState) (r : Rec) (tr' : List Rec), r.o = o → r.s = s → xtOps P call ann ops l s' = some (tr', sf) → tr = r :: tr' → wantF ops r.o (lget r.s.tmps) = some r.w → s'.tmps = tput r.s.tmps r.o.dst r.v →
        (r.w = false → r.v = .undef ∧ s'.H = r.s.H) → (r.w = true → xOp P call ann r.o (aval r.s.tmps) r.s.H = some (r.v, s'.H)) →
        tr.length = (o :: l).length ∧ stAt tr sf 0 = s ∧ ∀ (k : Nat) (r : Rec), tr[k]? = some r → (o :: l)[k]? = some r.o ∧ wantF ops r.o (lget r.s.tmps) = some r.w ∧ (stAt tr sf (k + 1)).tmps = tput r.s.tmps r.o.dst r.v ∧
          (r.w = false → r.v = .undef ∧ (stAt tr sf (k + 1)).H = r.s.H) ∧ (r.w = true → xOp P call ann r.o (aval r.s.tmps) r.s.H = some (r.v, (stAt tr sf (k + 1)).H)) := by
      intro s' r tr' ho hs hx htr h1 h2 h3 h4
      obtain ⟨h5, h6, h7⟩ := xtOps_facts l s' tr' sf hx
      subst htr
      have sh : ∀ k, stAt (r :: tr') sf (k + 1) = stAt tr' sf k := fun k => by simp [stAt]
      refine ⟨by simp [h5], by simp [stAt, hs], fun k r' hk => ?_⟩
      cases k with
      | zero =>
        simp only [List.getElem?_cons_zero, Option.some.injEq] at hk
        subst hk
        rw [sh, h6]
        exact ⟨by simp [ho], h1, h2, h3, h4⟩
      | succ k =>
        obtain ⟨h8, h9, h10, h11, h12⟩ := h7 k r' (by simpa using hk)
        rw [sh]
        exact ⟨by simpa using h8, h9, h10, h11, h12⟩
    split at h
    · rename_i hw
      split at h
      · rename_i v H' hx
        split at h
        · rename_i tr' sf' hxt
          simp only [Option.some.injEq, Prod.mk.injEq] at h
          obtain ⟨rfl, rfl⟩ := h
          exact cons _ _ _ rfl rfl hxt rfl hw rfl (fun h => by cases h) (fun _ => hx)
        · cases h
      · cases h
    · rename_i hw
      split at h
      · rename_i tr' sf' hxt
        simp only [Option.some.injEq, Prod.mk.injEq] at h
        obtain ⟨rfl, rfl⟩ := h
        exact cons _ _ _ rfl rfl hxt rfl hw rfl (fun _ => ⟨rfl, rfl⟩) (fun h => by cases h)
      · cases h
    · cases h

theorem xt_vw (hc : call.ok P) (hp : PureOK P call pf) (hla : ann.la = []) {ops : Array Oper} {s : AState} {tr : List Rec} {sf : AState} (hx : xtOps P call ann ops ops.toList s = some (tr, sf)) (hchk : xChk P pf ann ops tr sf = true) :
    ∃ S V W, VW P ann ops (nOf pf ops) S V W ∧ S 0 = s ∧ S ops.size = sf := by
  obtain ⟨hlen, h0, hf⟩ := xtOps_facts _ _ _ _ hx
  have hlen' : tr.length = ops.size := by simpa using hlen
  have recd : ∀ k o, ops[k]? = some o → ∃ r : Rec, tr[k]? = some r ∧ r.o = o := fun k o ho => by
    have hk : k < ops.size := (Array.getElem?_eq_some_iff.1 ho).1
    refine ⟨tr[k]'(by omega), List.getElem?_eq_getElem (by omega), ?_⟩
    have := (hf k _ (List.getElem?_eq_getElem (by omega))).1
    rw [Array.getElem?_toList, ho] at this
    exact (Option.some.inj this).symm
  have hn : ∀ k o, ops[k]? = some o → nOf pf ops k = (mayTurn o && !pureCall pf o) := fun k o ho => by simp [nOf, ho]
  let V : Nat → AV := fun k => match tr[k]? with | some r => r.v | none => .undef
  let W : Nat → Bool := fun k => match tr[k]? with | some r => r.w | none => false
  have hV : ∀ (k : Nat) (r : Rec), tr[k]? = some r → V k = r.v := fun k r h => by simp [V, h]
  have hW : ∀ (k : Nat) (r : Rec), tr[k]? = some r → W k = r.w := fun k r h => by simp [W, h]
  have hS : ∀ (k : Nat) (r : Rec), tr[k]? = some r → stAt tr sf k = r.s := fun k r h => by simp [stAt, h]
  have chk : ∀ (k : Nat) (r : Rec), tr[k]? = some r → ops[k]? = some r.o → r.w = true → nOf pf ops k = false → ∀ (H' : AH), xOp P call ann r.o (aval r.s.tmps) r.s.H = some (r.v, H') → ∀ (j : Nat) (rj : Rec), tr[j]? = some rj → j < ops.size → (nOf pf ops j && rj.w) = true →
      (j < k → anc ops j k = false → aQuiet P ann r.o (aval r.s.tmps) rj.s.H r.v) ∧ (k < j → anc ops k j = false → aQuiet P ann r.o (aval r.s.tmps) (stAt tr sf (j + 1)).H r.v) := by
    intro k r hr ho hw hN H' hx j rj hrj hj hNj
    have hk : k < ops.size := (Array.getElem?_eq_some_iff.1 ho).1
    have hN' := hN
    rw [hn k r.o ho] at hN'
    by_cases hp' : pureCall pf r.o = true
    · have := (pureCall_quiet hp hp' (fun f => rfl) hx).2
      exact ⟨fun _ _ => this _, fun _ _ => this _⟩
    · have hm' : mayTurn r.o = false := by simpa [hp'] using hN'
      by_cases hi : imm r.o.op = true
      · have := (quiet_of hp hla hN' (fun f => rfl) hx).2
        exact ⟨fun _ _ => aQuiet_imm hi this, fun _ _ => aQuiet_imm hi this⟩
      · simp only [Bool.and_eq_true] at hNj
        have mem : ((j < k ∧ anc ops j k = false) ∨ (k < j ∧ anc ops k j = false)) → (k, j) ∈ needs pf ops := fun h => by
          unfold needs
          rw [List.mem_flatMap]
          refine ⟨k, by simpa using hk, ?_⟩
          try simp only [ho]
          rw [if_neg (by simp [hN, hi, hp'])]
          rw [List.mem_map]
          refine ⟨j, ?_, rfl⟩
          rw [List.mem_filter]
          refine ⟨by simpa using hj, ?_⟩
          simp only [Bool.and_eq_true, Bool.or_eq_true, decide_eq_true_eq, Bool.not_eq_true']
          exact ⟨hNj.1, h⟩
        have get : (k, j) ∈ needs pf ops → (if j < k then sameAt P ann r rj.s.H else sameAt P ann r (stAt tr sf (j + 1)).H) = true := fun h => by
          have := List.all_eq_true.1 hchk _ h
          simpa [hr, hrj, hw, hNj.2] using this
        refine ⟨fun h1 h2 => ?_, fun h1 h2 => ?_⟩
        · have := get (mem (.inl ⟨h1, h2⟩))
          rw [if_pos h1] at this
          exact sameAt_sound hla hm' this
        · have := get (mem (.inr ⟨h1, h2⟩))
          rw [if_neg (by omega)] at this
          exact sameAt_sound hla hm' this
  refine ⟨stAt tr sf, V, W, ?_, h0, by simp [stAt, hlen']⟩
  refine { w := ?_, t := ?_, v := ?_, h := ?_, q := ?_, n := ?_, lo := ?_, hi := ?_ }
  · intro k o ho
    obtain ⟨r, hr, rfl⟩ := recd k o ho
    rw [hS k r hr, hW k r hr]
    exact (hf k r hr).2.1
  · intro k o ho
    obtain ⟨r, hr, rfl⟩ := recd k o ho
    rw [hS k r hr, hV k r hr]
    exact (hf k r hr).2.2.1
  · intro k hk hw
    obtain ⟨r, hr, _⟩ := recd k ops[k] (by simp [hk])
    rw [hW k r hr] at hw
    rw [hV k r hr]
    exact ((hf k r hr).2.2.2.1 hw).1
  · intro k hk hnw
    obtain ⟨r, hr, hro⟩ := recd k ops[k] (by simp [hk])
    rw [hW k r hr] at hnw
    rw [hS k r hr]
    cases hw : r.w with
    | false => exact ((hf k r hr).2.2.2.1 hw).2
    | true =>
      have hN : nOf pf ops k = false := by simpa [hw] using hnw
      rw [hn k r.o (by rw [hro]; simp [hk])] at hN
      exact (quiet_of hp hla hN (fun f => rfl) ((hf k r hr).2.2.2.2 hw)).1
  · intro k o ho hw hN
    obtain ⟨r, hr, rfl⟩ := recd k o ho
    rw [hW k r hr] at hw
    rw [hS k r hr, hV k r hr]
    rw [hn k r.o ho] at hN
    exact (quiet_of hp hla hN (fun f => rfl) ((hf k r hr).2.2.2.2 hw)).2
  · intro k o ho hw hN
    obtain ⟨r, hr, rfl⟩ := recd k o ho
    rw [hW k r hr] at hw
    rw [hS k r hr, hV k r hr]
    exact xOp_sound hc ((hf k r hr).2.2.2.2 hw) ⟨rfl, rfl⟩
  · intro k j o ho hjk hw hN hNj hanc
    obtain ⟨r, hr, rfl⟩ := recd k o ho
    have hk : k < ops.size := (Array.getElem?_eq_some_iff.1 ho).1
    obtain ⟨rj, hrj, _⟩ := recd j ops[j] (by simp [show j < ops.size by omega])
    rw [hW j rj hrj] at hNj
    rw [hW k r hr] at hw
    rw [hS k r hr, hV k r hr, hS j rj hrj]
    exact (chk k r hr ho hw hN _ ((hf k r hr).2.2.2.2 hw) j rj hrj (by omega) hNj).1 hjk hanc
  · intro k j o ho hkj hj hw hN hNj hanc
    obtain ⟨r, hr, rfl⟩ := recd k o ho
    have hk : k < ops.size := (Array.getElem?_eq_some_iff.1 ho).1
    obtain ⟨rj, hrj, _⟩ := recd j ops[j] (by simp [hj])
    rw [hW j rj hrj] at hNj
    rw [hW k r hr] at hw
    rw [hS k r hr, hV k r hr]
    exact (chk k r hr ho hw hN _ ((hf k r hr).2.2.2.2 hw) j rj hrj hj hNj).2 hkj hanc
end
end Go.AL
namespace Go.AL
open Go

section
variable {P : Program} {call : Know} {pf : FuncId → Bool} {ann : Ann}

theorem yCode_sound (hm : P.follows .mixedOrders = true) (hc : call.ok P) (hp : PureOK P call pf) (hla : ann.la = []) {B : Base} {n fuel : Nat} : ∀ (c : Code) (s : AState) (e : Exit) (s' : AState), dstsOK n c = true → yCode P call pf ann fuel c s = some (e, s') →
    Ok P B n c s (fun e1 s1 => e1 = e ∧ s1 = s') := by
  intro c
  induction c with
  | skip => intro s e s' _ h; simp only [yCode, Option.some.injEq, Prod.mk.injEq] at h; exact .skip ⟨h.1, h.2⟩
  | label l => intro s e s' _ h; simp only [yCode, Option.some.injEq, Prod.mk.injEq] at h; exact .label ⟨h.1, h.2⟩
  | exit id => intro s e s' _ h; simp only [yCode, Option.some.injEq, Prod.mk.injEq] at h; exact .exit ⟨h.1, h.2⟩
  | ret => intro s e s' _ h; simp only [yCode, Option.some.injEq, Prod.mk.injEq] at h; exact .ret ⟨h.1, h.2⟩
  | region id ops draw =>
    intro s e s' hd h
    simp only [yCode] at h
    simp only [dstsOK] at hd
    cases draw with
    | true =>
      simp only [if_true] at h
      split at h
      · rename_i hlex
        split at h
        · rename_i tr sf hx
          split at h
          · rename_i hchk
            simp only [Option.some.injEq, Prod.mk.injEq] at h
            obtain ⟨rfl, rfl⟩ := h
            obtain ⟨S, V, W, hw, h0, hn⟩ := xt_vw hc hp hla hx hchk
            exact .drawV ann _ S V W hm hd hlex hw h0 ⟨rfl, hn⟩
          · cases h
        · cases h
      · cases h
    | false =>
      simp only [Bool.false_eq_true, if_false] at h
      split at h
      · rename_i s1 hx
        simp only [Option.some.injEq, Prod.mk.injEq] at h
        obtain ⟨rfl, rfl⟩ := h
        exact .region ann hd (xOps_sound hc _ _ _ hx ⟨rfl, rfl⟩)
      · cases h
  | seq a b iha ihb =>
    intro s e s' hd h
    simp only [dstsOK, Bool.and_eq_true] at hd
    simp only [yCode] at h
    refine .seq ?_
    split at h
    · rename_i s1 ha
      refine (iha s _ _ hd.1 ha).mono ?_
      rintro e1 s2 ⟨rfl, rfl⟩
      exact ihb _ _ _ hd.2 h
    · rename_i hno
      refine (iha s e s' hd.1 h).mono ?_
      rintro e1 s2 ⟨rfl, rfl⟩
      cases e1 <;> first | exact ⟨rfl, rfl⟩ | exact (hno _ h).elim
  | cond c a b iha ihb =>
    intro s e s' hd h
    simp only [dstsOK, Bool.and_eq_true] at hd
    simp only [yCode] at h
    split at h
    · rename_i t ht
      refine .cond ht ?_
      cases t with
      | true => simp only [if_true] at h ⊢; exact iha _ _ _ hd.1 h
      | false => simp only [Bool.false_eq_true, if_false] at h ⊢; exact ihb _ _ _ hd.2 h
    · cases h
  | block id c ih =>
    intro s e s' hd h
    simp only [dstsOK] at hd
    simp only [yCode] at h
    refine .block ?_
    split at h
    · rename_i id' s1 hx
      refine (ih s _ _ hd hx).mono ?_
      rintro e1 s2 ⟨rfl, rfl⟩
      simp only [blockQ]
      split at h
      · rename_i hid
        simp only [Option.some.injEq, Prod.mk.injEq] at h
        rw [if_pos hid]
        exact ⟨h.1, h.2⟩
      · rename_i hid
        simp only [Option.some.injEq, Prod.mk.injEq] at h
        rw [if_neg hid]
        exact ⟨h.1, h.2⟩
    · rename_i hno
      refine (ih s e s' hd h).mono ?_
      rintro e1 s2 ⟨rfl, rfl⟩
      cases e1 <;> first | exact ⟨rfl, rfl⟩ | exact (hno _ _ h).elim
  | loop c ih =>
    intro s e s' hd h
    simp only [dstsOK] at hd
    simp only [yCode] at h
    refine .loop (fun k s => xLoop (yCode P call pf ann fuel c) k s = some (e, s')) fuel h ?_
    intro k s hI
    cases k with
    | zero => simp [xLoop] at hI
    | succ k =>
      simp only [xLoop] at hI
      split at hI
      · rename_i s1 hx
        refine (ih s _ _ hd hx).mono ?_
        rintro e1 s2 ⟨rfl, rfl⟩
        exact ⟨k, Nat.lt_succ_self k, hI⟩
      · rename_i hno
        refine (ih s e s' hd hI).mono ?_
        rintro e1 s2 ⟨rfl, rfl⟩
        cases e1 <;> first | exact ⟨rfl, rfl⟩ | exact (hno _ hI).elim
  | _ => intro s e s' _ h; simp [yCode] at h
end

/-- What is known of a program's functions: pure ones by their answer, others by answer and heap; which others are walked as pure ones. -/
structure Env where
  tabP : FuncId → Option (List AV → Option AV) := fun _ => none
  tab : Tab := fun _ => none
  pure : FuncId → Bool := fun _ => false
  fuel : Nat := 10000
  deep : Nat := 10

def Env.pf (E : Env) (f : FuncId) : Bool := (E.tabP f).isSome || ((E.tab f).isNone && E.pure f)

structure Env.ok (E : Env) (P : Program) : Prop where
  tabP : ∀ f g, E.tabP f = some g → ∀ args r, g args = some r → Fn P f args r
  tab : E.tab.ok P

/-- A function's body, by what is known of calls. -/
def yBody (P : Program) (call : Know) (pf : FuncId → Bool) (fuel : Nat) (fn : Func) (args : List AV) (h : List AObj) : Option (AV × List AObj) :=
  match fn.body with
  | none => none
  | some c => if args.length ≤ fn.ntmps then
      match yCode P call pf annAll fuel c ⟨initT 0 args, ⟨[], h⟩⟩ with
      | some (.normal, s) | some (.ret, s) => match aRes P fn s with
        | some r => if r.noLoc then some (r, s.H.heap) else none
        | none => none
      | _ => none
    else none

def yCall (P : Program) (E : Env) : Nat → Know
  | 0, f, args, h => none
  | d + 1, f, args, h => match E.tabP f with
    | some g => match g args with
      | some r => some (r, h)
      | none => none
    | none => match E.tab f with
      | some g => g args h
      | none => match P.funcs[f]? with
        | none => none
        | some fn => if E.pure f then (if args.all AV.pure then (match yBody P (yCall P E d) E.pf E.fuel fn args [] with
            | some (r, h') => match frz h' E.deep r with
              | some r' => some (r', h)
              | none => none
            | none => none) else none)
          else yBody P (yCall P E d) E.pf E.fuel fn args h

theorem yBody_sound {P : Program} {call : Know} {pf : FuncId → Bool} {fuel : Nat} (hm : P.follows .mixedOrders = true) (hall : allDsts P = true) (hc : call.ok P) (hp : PureOK P call pf) {f : FuncId} {fn : Func} (hf : P.funcs[f]? = some fn) {args : List AV} {h : List AObj} {r : AV} {h' : List AObj}
    (hx : yBody P call pf fuel fn args h = some (r, h')) : FnQ P f args h (fun r1 h1 => r1 = r ∧ h1 = h') := by
  unfold yBody at hx
  split at hx
  · cases hx
  · rename_i c hb
    have hd : dstsOK fn.ntmps c = true := by
      have := Array.all_eq_true_iff_forall_mem.1 hall fn (Array.mem_of_getElem? hf)
      simpa [hb] using this
    split at hx
    · rename_i hn
      refine FnQ.intro hf hb hn fun B => ?_
      split at hx
      · rename_i s hs
        split at hx
        · rename_i r' hr
          split at hx
          · rename_i hno
            cases hx
            refine (yCode_sound hm hc hp rfl c _ _ _ hd hs).mono ?_
            rintro e1 s1 ⟨rfl, rfl⟩
            exact ⟨r, hr, hno, rfl, rfl⟩
          · cases hx
        · cases hx
      · rename_i s hs
        split at hx
        · rename_i r' hr
          split at hx
          · rename_i hno
            cases hx
            refine (yCode_sound hm hc hp rfl c _ _ _ hd hs).mono ?_
            rintro e1 s1 ⟨rfl, rfl⟩
            exact ⟨r, hr, hno, rfl, rfl⟩
          · cases hx
        · cases hx
      · cases hx
    · cases hx

theorem yCall_sound {P : Program} {E : Env} (hm : P.follows .mixedOrders = true) (hall : allDsts P = true) (hE : E.ok P) : ∀ d, (yCall P E d).ok P ∧ PureOK P (yCall P E d) E.pf
  | 0 => ⟨fun f args h r h' hx => by simp [yCall] at hx, fun f args h r h' _ hx => by simp [yCall] at hx⟩
  | d + 1 => by
    obtain ⟨ih1, ih2⟩ := yCall_sound hm hall hE d
    have pureWalk : ∀ {f : FuncId} {fn : Func} {args : List AV} {h : List AObj} {r : AV} {h' : List AObj}, P.funcs[f]? = some fn → (if args.all AV.pure then (match yBody P (yCall P E d) E.pf E.fuel fn args [] with
            | some (r, h') => match frz h' E.deep r with
              | some r' => some (r', h)
              | none => none
            | none => none) else none) = some (r, h') → h' = h ∧ Fn P f args r := by
      intro f fn args h r h' hf hx
      split at hx
      · rename_i hpure
        split at hx
        · rename_i r1 h1 hb
          split at hx
          · rename_i r' hfr
            cases hx
            refine ⟨rfl, Fn.of_empty (d := E.deep) hpure ((yBody_sound hm hall ih1 ih2 hf hb).mono ?_)⟩
            rintro r2 h2 ⟨rfl, rfl⟩
            exact hfr
          · cases hx
        · cases hx
      · cases hx
    refine ⟨fun f args h r h' hx => ?_, fun f args h r h' hpf hx => ?_⟩
    · simp only [yCall] at hx
      split at hx
      · rename_i g hg
        split at hx
        · rename_i r' hr
          cases hx
          exact hE.tabP f g hg args r hr h
        · cases hx
      · split at hx
        · rename_i g hg; exact hE.tab f g hg args h r h' hx
        · split at hx
          · cases hx
          · rename_i fn hf
            split at hx
            · obtain ⟨rfl, h2⟩ := pureWalk hf hx
              exact h2 h'
            · exact yBody_sound hm hall ih1 ih2 hf hx
    · simp only [yCall] at hx
      split at hx
      · rename_i g hg
        split at hx
        · rename_i r' hr
          cases hx
          exact ⟨rfl, hE.tabP f g hg args r hr⟩
        · cases hx
      · rename_i hnP
        split at hx
        · rename_i g hg
          simp [Env.pf, hnP, hg] at hpf
        · rename_i hnT
          split at hx
          · cases hx
          · rename_i fn hf
            have : E.pure f = true := by simpa [Env.pf, hnP, hnT] using hpf
            rw [if_pos this] at hx
            exact pureWalk hf hx
end Go.AL
