/- The abstract logic over any program: statements, and orders that are drawn. It asks nothing of the program. -/
import Derived.Test.YtcpjmlcfjgbgeaaDoorLb
set_option linter.unusedVariables false
set_option linter.unusedSimpArgs false
namespace Go.AL
open Go

def post (B : Base) (n : Nat) (Q : Exit → AState → Prop) : Exit → Act → World → Prop := fun e a w => ∃ s, Q e s ∧ RelN B n s a w

/-- A statement, abstractly: from state s it comes to its end, Q holding there. -/
def Ok (P : Program) (B : Base) (n : Nat) (c : Code) (s : AState) (Q : Exit → AState → Prop) : Prop :=
  ∀ a w, RelN B n s a w → c.wp P (post B n Q) a w

/-- The value of a guard. -/
def guardB (ops : Array Oper) (ts : List (Nat × AV)) (j : Nat) : Option Bool :=
  match (ops[j]?).bind (·.dst) with
  | some d => match lget ts d with
    | some (.bool b) => some b
    | _ => none
  | none => none

/-- The operations of a region, in the text's order. -/
def aOps (P : Program) (ann : Ann) (ops : Array Oper) (Q : AState → Prop) : List Oper → AState → Prop
  | [], s => Q s
  | o :: rest, s => match o.guard with
    | none => aOp P ann o (aval s.tmps) s.H fun v H' => aOps P ann ops Q rest ⟨tput s.tmps o.dst v, H'⟩
    | some (j, want) => match guardB ops s.tmps j with
      | some b => if b = want then aOp P ann o (aval s.tmps) s.H fun v H' => aOps P ann ops Q rest ⟨tput s.tmps o.dst v, H'⟩
        else aOps P ann ops Q rest ⟨tput s.tmps o.dst .undef, s.H⟩
      | none => False

def dstsIn (n : Nat) (ops : List Oper) : Bool := ops.all fun o => match o.dst with | some d => decide (d < n) | none => true

theorem guardB_sound {B : Base} {n : Nat} {s : AState} {a : Act} {w : World} (hrel : RelN B n s a w) {ops : Array Oper} {j : Nat} {b : Bool} (h : guardB ops s.tmps j = some b) : yielded ops a.tmps j = some b := by
  obtain ⟨hn, hdef, L, S, hr, ht⟩ := hrel
  unfold guardB at h
  split at h
  · rename_i d hd
    split at h
    · rename_i b' hb
      cases h
      obtain ⟨h1, h2⟩ := ht d _ hb
      unfold yielded
      rw [hd]
      simp only [Option.bind_some]
      have : a.tmps[d]? = some (a.tmps.getD d Go.undef) := by simp [Array.getD, h1]
      rw [this]
      generalize a.tmps.getD d Go.undef = u at h2
      cases h2
      rfl
    · cases h
  · cases h

theorem RelN.put_undef {B : Base} {n : Nat} {s : AState} {a : Act} {w : World} (h : RelN B n s a w) (d : Option Tmp) (hd : ∀ t, d = some t → t < n) : RelN B n ⟨tput s.tmps d .undef, s.H⟩ (a.put d Go.undef) w := by
  obtain ⟨hn, hdef, L, S, hr, ht⟩ := h
  unfold RelN
  rw [lget_tput]
  exact ⟨by rw [put_size]; exact hn, by rw [put_defers]; exact hdef, L, S, hr, ht.put _ (.undef _) (fun t e => by rw [hn]; exact hd t e)⟩

theorem aOps_sound {P : Program} {B : Base} {n : Nat} {ann : Ann} {ops : Array Oper} {Q : Exit → AState → Prop} : ∀ (l : List Oper) (s : AState) (a : Act) (w : World), RelN B n s a w → dstsIn n l = true →
    aOps P ann ops (Q .normal) l s → wpList P ops (post B n Q) l a w
  | [], s, a, w, hrel, _, h => ⟨s, h, hrel⟩
  | o :: l, s, a, w, hrel, hd, h => by
    simp only [dstsIn, List.all_cons, Bool.and_eq_true] at hd
    obtain ⟨hd1, hd2⟩ := hd
    have hdo : ∀ t, o.dst = some t → t < n := fun t e => by rw [e] at hd1; simpa using hd1
    have step : aOp P ann o (aval s.tmps) s.H (fun v H' => aOps P ann ops (Q .normal) l ⟨tput s.tmps o.dst v, H'⟩) → o.wp P a w (wpList P ops (post B n Q) l) (post B n Q) := fun h =>
      Oper.wp_mono (fun a' w' ⟨v, H', hK, hR⟩ => aOps_sound l _ a' w' hR (by simpa [dstsIn] using hd2) hK) (aOp_sound (Q := post B n Q) hrel hdo h)
    simp only [aOps] at h
    simp only [wpList]
    split at h
    · rename_i hg
      rw [if_pos (by simp [Region.wanted, hg])]
      exact .inl (step h)
    · rename_i j want hg
      split at h
      · rename_i b hb
        have hy := guardB_sound hrel hb
        split at h
        · rename_i hbw
          subst hbw
          rw [if_pos (by simp [Region.wanted, hg, hy])]
          exact .inl (step h)
        · rename_i hbw
          rw [if_neg (by simp [Region.wanted, hg, hy, hbw])]
          exact aOps_sound l _ _ w (hrel.put_undef o.dst hdo) (by simpa [dstsIn] using hd2) h
      · cases h

section
variable {P : Program} {B : Base} {n : Nat} {s : AState} {Q : Exit → AState → Prop}

theorem Ok.region {id : Nat} {ops : Array Oper} (ann : Ann) (hd : dstsIn n ops.toList = true) (h : aOps P ann ops (Q .normal) ops.toList s) : Ok P B n (.region id ops false) s Q :=
  fun a w hrel => wp_region_list (aOps_sound ops.toList s a w hrel hd h)

theorem Ok.skip (h : Q .normal s) : Ok P B n .skip s Q := fun a w hrel => wp_skip ⟨s, h, hrel⟩
theorem Ok.label {l : Nat} (h : Q .normal s) : Ok P B n (.label l) s Q := fun a w hrel => wp_label ⟨s, h, hrel⟩
theorem Ok.exit {id : Nat} (h : Q (.exit id) s) : Ok P B n (.exit id) s Q := fun a w hrel => wp_exit ⟨s, h, hrel⟩
theorem Ok.ret (h : Q .ret s) : Ok P B n .ret s Q := fun a w hrel => wp_ret ⟨s, h, hrel⟩

theorem Ok.mono {c : Code} {Q' : Exit → AState → Prop} (h : Ok P B n c s Q) (hq : ∀ e s, Q e s → Q' e s) : Ok P B n c s Q' :=
  fun a w hrel => wp_mono (h a w hrel) fun e a w ⟨s, h1, h2⟩ => ⟨s, hq _ _ h1, h2⟩

/-- What stands behind. -/
def thenQ (next : AState → Prop) (Q : Exit → AState → Prop) : Exit → AState → Prop
  | .normal, s => next s
  | e, s => Q e s

theorem Ok.seq {x y : Code} (h : Ok P B n x s (thenQ (fun s' => Ok P B n y s' Q) Q)) : Ok P B n (.seq x y) s Q := fun a w hrel => by
  refine wp_seq (wp_mono (h a w hrel) ?_)
  intro e a' w' ⟨s', h1, h2⟩
  cases e with
  | normal => exact h1 a' w' h2
  | _ => exact ⟨s', h1, h2⟩

theorem Ok.cond {c : Operand} {x y : Code} {t : Bool} (hc : aval s.tmps c = .bool t) (h : Ok P B n (if t then x else y) s Q) : Ok P B n (.cond c x y) s Q := fun a w hrel => by
  obtain ⟨hn, hdef, L, S, hr, ht⟩ := id hrel
  have hv := VR.aval ht c
  rw [← aval_eq, hc] at hv
  generalize hu : a.eval c = u at hv
  cases hv
  exact wp_cond hu (h a w hrel)

/-- Leaving a block. -/
def blockQ (id : Nat) (Q : Exit → AState → Prop) : Exit → AState → Prop
  | .exit id', s => if id' = id then Q .normal s else Q (.exit id') s
  | e, s => Q e s

theorem Ok.block {id : Nat} {c : Code} (h : Ok P B n c s (blockQ id Q)) : Ok P B n (.block id c) s Q := fun a w hrel => by
  refine wp_block (wp_mono (h a w hrel) ?_)
  intro e a' w' ⟨s', h1, h2⟩
  cases e with
  | exit id' =>
    simp only [blockQ] at h1
    simp only [Exit.inBlock]
    split at h1
    · rename_i hid; rw [if_pos hid]; exact ⟨s', h1, h2⟩
    · rename_i hid; rw [if_neg hid]; exact ⟨s', h1, h2⟩
  | _ => exact ⟨s', h1, h2⟩

/-- A loop: an invariant that bears a number, which every round lowers. -/
theorem Ok.loop {c : Code} (I : Nat → AState → Prop) (k : Nat) (h0 : I k s) (round : ∀ k s, I k s → Ok P B n c s (thenQ (fun s' => ∃ k', k' < k ∧ I k' s') Q)) : Ok P B n (.loop c) s Q := fun a w hrel => by
  refine wp_loop_ghost (fun k a w => ∃ s, I k s ∧ RelN B n s a w) k ⟨s, h0, hrel⟩ ?_
  rintro k a w ⟨s, hI, hrel⟩
  refine wp_mono (round k s hI a w hrel) ?_
  intro e a' w' ⟨s', h1, h2⟩
  cases e with
  | normal => obtain ⟨k', h3, h4⟩ := h1; exact ⟨k', h3, s', h4, h2⟩
  | _ => exact ⟨s', h1, h2⟩

/-- What is told of fewer, or less, serves. -/
theorem Ok.weak {c : Code} {s' : AState} (hs : ∀ a w, RelN B n s a w → RelN B n s' a w) (h : Ok P B n c s' Q) : Ok P B n c s Q := fun a w hrel => h a w (hs a w hrel)
end
end Go.AL
namespace Go.AL
open Go

/-! ### What must have come ahead -/
def edgeMask (acc : Array Nat) (o : Oper) : Nat := o.after.toList.foldl (fun s e => if Region.binds .any e then s ||| (2 ^ e.on ||| acc.getD e.on 0) else s) 0
def befs (l : List Oper) : Array Nat := l.foldl (fun acc o => acc.push (edgeMask acc o)) #[]

theorem edgeMask_bit (acc : Array Nat) (o : Oper) (i : Nat) (h : (edgeMask acc o).testBit i = true) :
    ∃ e ∈ o.after, Region.binds .any e = true ∧ (e.on = i ∨ (acc.getD e.on 0).testBit i = true) := by
  have key : ∀ (l : List Edge) (s : Nat), (l.foldl (fun s e => if Region.binds .any e then s ||| (2 ^ e.on ||| acc.getD e.on 0) else s) s).testBit i = true →
      s.testBit i = true ∨ ∃ e ∈ l, Region.binds .any e = true ∧ (e.on = i ∨ (acc.getD e.on 0).testBit i = true) := by
    intro l
    induction l with
    | nil => intro s h; exact .inl h
    | cons e l ih =>
      intro s h
      simp only [List.foldl_cons] at h
      rcases ih _ h with h1 | ⟨e', h1, h2⟩
      · split at h1
        · rename_i hb
          simp only [Nat.testBit_or, Bool.or_eq_true, Nat.testBit_two_pow, decide_eq_true_eq] at h1
          rcases h1 with h1 | h1 | h1
          · exact .inl h1
          · exact .inr ⟨e, List.mem_cons_self, hb, .inl h1⟩
          · exact .inr ⟨e, List.mem_cons_self, hb, .inr h1⟩
        · exact .inl h1
      · exact .inr ⟨e', List.mem_cons_of_mem _ h1, h2⟩
  rcases key _ _ h with h1 | ⟨e, h1, h2⟩
  · simp at h1
  · exact ⟨e, by simpa using h1, h2⟩

theorem befs_snoc (l : List Oper) (o : Oper) : befs (l ++ [o]) = (befs l).push (edgeMask (befs l) o) := by simp [befs, List.foldl_append]
theorem befs_size (l : List Oper) : (befs l).size = l.length := by
  obtain ⟨m, rfl⟩ : ∃ m : List Oper, l = m.reverse := ⟨l.reverse, by simp⟩
  induction m with
  | nil => rfl
  | cons o m ih => rw [List.reverse_cons, befs_snoc]; simp [ih]

theorem befs_bit (l : List Oper) : ∀ (k : Nat) (o : Oper) (i : Nat), l[k]? = some o → ((befs l).getD k 0).testBit i = true →
    ∃ e ∈ o.after, Region.binds .any e = true ∧ (e.on = i ∨ (e.on < k ∧ ((befs l).getD e.on 0).testBit i = true)) := by
  obtain ⟨m, rfl⟩ : ∃ m : List Oper, l = m.reverse := ⟨l.reverse, by simp⟩
  induction m with
  | nil => intro k o i h; simp at h
  | cons p m ih =>
    intro k o i h hb
    rw [List.reverse_cons] at h hb ⊢
    generalize m.reverse = l at *
    rw [befs_snoc] at hb ⊢
    have hsz := befs_size l
    have old : ∀ j, j < l.length → ((befs l).push (edgeMask (befs l) p)).getD j 0 = (befs l).getD j 0 := fun j hj => by
      simp [Array.getElem?_push, hsz, show j ≠ l.length by omega]
    by_cases hk : k < l.length
    · rw [List.getElem?_append_left hk] at h
      rw [old k hk] at hb
      obtain ⟨e, h1, h2, h3⟩ := ih k o i h hb
      refine ⟨e, h1, h2, ?_⟩
      rcases h3 with h3 | ⟨h3, h4⟩
      · exact .inl h3
      · exact .inr ⟨h3, by rw [old _ (by omega)]; exact h4⟩
    · rw [List.getElem?_append_right (by omega)] at h
      have hk0 : k = l.length := by have := (List.getElem?_eq_some_iff.1 h).1; simp at this; omega
      subst hk0
      simp at h
      subst h
      have : ((befs l).push (edgeMask (befs l) p)).getD l.length 0 = edgeMask (befs l) p := by rw [Array.getD_eq_getD_getElem?, Array.getElem?_push, if_pos hsz.symm]; rfl
      rw [this] at hb
      obtain ⟨e, h1, h2, h3⟩ := edgeMask_bit _ _ _ hb
      refine ⟨e, h1, h2, ?_⟩
      rcases h3 with h3 | h3
      · exact .inl h3
      · have hlt : e.on < l.length := by
          rcases Nat.lt_or_ge e.on l.length with h4 | h4
          · exact h4
          · have : (befs l).getD e.on 0 = 0 := by simp [Array.getElem?_eq_none (show (befs l).size ≤ e.on by omega)]
            rw [this] at h3; simp at h3
        exact .inr ⟨hlt, by rw [old _ hlt]; exact h3⟩

def anc (ops : Array Oper) (i j : Nat) : Bool := ((befs ops.toList).getD j 0).testBit i

/-- What came up is closed: whatever must have come ahead has. -/
def Closed (ops : Array Oper) (listed : Array Bool) : Prop :=
  ∀ j o, ops[j]? = some o → listed.getD j false = true → ∀ e ∈ o.after, Region.binds .any e = true → listed.getD e.on false = true

theorem anc_listed {ops : Array Oper} {listed : Array Bool} (hc : Closed ops listed) : ∀ (j : Nat) (o : Oper) (i : Nat), ops[j]? = some o → (∀ e ∈ o.after, Region.binds .any e = true → listed.getD e.on false = true) → anc ops i j = true →
    listed.getD i false = true := by
  intro j
  induction j using Nat.strongRecOn with
  | _ j ih =>
    intro o i ho hall ha
    obtain ⟨e, h1, h2, h3⟩ := befs_bit ops.toList j o i (by simpa using ho) ha
    rcases h3 with h3 | ⟨h3, h4⟩
    · rw [← h3]; exact hall e h1 h2
    · have hl := hall e h1 h2
      have hlt : e.on < ops.size := by
        have := (Array.getElem?_eq_some_iff.1 ho).1; omega
      exact ih e.on h3 ops[e.on] i (by simp [hlt]) (hc e.on _ (by simp [hlt]) hl) h4

/-! ### The abstract operations, in whatever order -/
/-- One answer, and nothing turns. -/
def aQuiet (P : Program) (ann : Ann) (o : Oper) (ρ : Operand → AV) (H : AH) (v : AV) : Prop :=
  match o.op with
  | .call { callee := .value f, args, .. } => match ρ f with
    | .fn fid first cap => enters P fid = true ∧ noLocs (first ++ args.toList.map ρ ++ cap) = true ∧ FnQ P fid (first ++ args.toList.map ρ ++ cap) H.heap (fun r h' => r = v ∧ h' = H.heap)
    | _ => False
  | _ => aEff P ann o ρ H = some (v, H)

theorem aOp_of_quiet {P : Program} {ann : Ann} {o : Oper} {ρ : Operand → AV} {H : AH} {v : AV} {K : AV → AH → Prop} (h : aQuiet P ann o ρ H v) (hK : K v H) : aOp P ann o ρ H K := by
  unfold aQuiet at h
  unfold aOp
  obtain ⟨dst, op, type, pos, after, guard⟩ := o
  cases op
  case call c =>
    obtain ⟨callee, args, argTypes⟩ := c
    cases callee with
    | value f =>
      simp only at h ⊢
      split at h
      · rename_i fid first cap hf
        try simp only [hf]
        exact ⟨h.1, h.2.1, h.2.2.mono fun r h' ⟨h1, h2⟩ => by subst h1; subst h2; exact hK⟩
      · cases h
    | _ => simp only at h ⊢; rw [h]; exact hK
  all_goals (simp only at h ⊢; rw [h]; exact hK)

theorem aEff_congr {P : Program} {ann : Ann} {o : Oper} {ρ ρ' : Operand → AV} {H : AH} (hs : ∀ x ∈ o.op.operands, ρ x = ρ' x) : aEff P ann o ρ H = aEff P ann o ρ' H := by
  obtain ⟨dst, op, type, pos, after, guard⟩ := o
  have pairs : ∀ ps : Array (Nat × Operand), (∀ x ∈ (ps.toList.map (·.2)).toArray, ρ x = ρ' x) → (ps.toList.map fun p => (p.1, ρ p.2)) = (ps.toList.map fun p => (p.1, ρ' p.2)) := fun ps hp =>
    List.map_congr_left fun p hm => by rw [hp p.2 (by simp; exact ⟨p.1, by simpa using hm⟩)]
  cases op <;> simp only [Op.operands] at hs
  case build t ps => simp only [aEff, pairs ps hs]
  case buildSlice t n ps => simp only [aEff, pairs ps hs]
  case makeFunc fn first cap =>
    have h1 : first.toList.map ρ = first.toList.map ρ' := List.map_congr_left fun x hx => hs x (by simp; exact .inl (by simpa using hx))
    have h2 : cap.toList.map ρ = cap.toList.map ρ' := List.map_congr_left fun x hx => hs x (by simp; exact .inr (by simpa using hx))
    cases fn <;> simp only [aEff, h1, h2]
  case makeMap t r => cases r <;> simp only [aEff]
  case slice t x lo hi mx =>
    have hx := hs x (by simp)
    have hlo : lo.map ρ = lo.map ρ' := by cases lo with | none => rfl | some y => simp [hs y (by simp)]
    have hhi : hi.map ρ = hi.map ρ' := by cases hi with | none => rfl | some y => simp [hs y (by simp)]
    cases mx <;> simp only [aEff, hx, hlo, hhi]
  case call c =>
    obtain ⟨callee, args, argTypes⟩ := c
    cases callee with
    | builtin b =>
      have h1 : ∀ x ∈ args.toList, ρ x = ρ' x := fun x hx => hs x (by simp [Call.operands]; simpa using hx)
      have h2 : args.toList.map ρ = args.toList.map ρ' := List.map_congr_left h1
      cases b <;> simp only [aEff, h2]
      all_goals (split <;> rename_i hargs _ <;> first | rfl | (simp only [h1 _ (by rw [hargs]; simp)]) | (simp only [hargs, List.mem_cons, List.not_mem_nil, or_false] at h1; simp [h1]))
    | _ => simp only [aEff]
  all_goals (simp only [aEff]; try (first | rfl | (simp only [hs _ (by simp : _ ∈ _)]) | (simp at hs; simp [hs])))

end Go.AL
namespace Go.AL
open Go

theorem aOp_mono {P : Program} {ann : Ann} {o : Oper} {ρ : Operand → AV} {H : AH} {K K' : AV → AH → Prop} (hk : ∀ v H', K v H' → K' v H') (h : aOp P ann o ρ H K) : aOp P ann o ρ H K' := by
  unfold aOp at *
  obtain ⟨dst, op, type, pos, after, guard⟩ := o
  cases op
  case call c =>
    obtain ⟨callee, args, argTypes⟩ := c
    cases callee with
    | value f =>
      simp only at h ⊢
      split at h
      · rename_i fid first cap hf
        try simp only [hf]
        exact ⟨h.1, h.2.1, h.2.2.mono fun r h' hq => hk _ _ hq⟩
      · cases h
    | _ => simp only at h ⊢; split at h <;> first | exact hk _ _ h | exact h.elim
  all_goals (simp only at h ⊢; split at h <;> first | exact hk _ _ h | exact h.elim)

theorem aOp_congr {P : Program} {ann : Ann} {o : Oper} {ρ ρ' : Operand → AV} {H : AH} {K : AV → AH → Prop} (hs : ∀ x ∈ o.op.operands, ρ x = ρ' x) (h : aOp P ann o ρ H K) : aOp P ann o ρ' H K := by
  have he := aEff_congr (P := P) (ann := ann) (H := H) hs
  unfold aOp at *
  obtain ⟨dst, op, type, pos, after, guard⟩ := o
  cases op
  case call c =>
    obtain ⟨callee, args, argTypes⟩ := c
    cases callee with
    | value f =>
      simp only [Op.operands, Call.operands] at hs
      have h1 : ρ f = ρ' f := hs f (by simp)
      have h2 : args.toList.map ρ = args.toList.map ρ' := List.map_congr_left fun x hx => hs x (by simp; exact .inr (by simpa using hx))
      simp only at h ⊢
      rw [← h1, ← h2]
      exact h
    | _ => simp only at h ⊢; rw [← he]; exact h
  all_goals (simp only at h ⊢; rw [← he]; exact h)

theorem aQuiet_congr {P : Program} {ann : Ann} {o : Oper} {ρ ρ' : Operand → AV} {H : AH} {v : AV} (hs : ∀ x ∈ o.op.operands, ρ x = ρ' x) (h : aQuiet P ann o ρ H v) : aQuiet P ann o ρ' H v := by
  have he := aEff_congr (P := P) (ann := ann) (H := H) hs
  unfold aQuiet at *
  obtain ⟨dst, op, type, pos, after, guard⟩ := o
  cases op
  case call c =>
    obtain ⟨callee, args, argTypes⟩ := c
    cases callee with
    | value f =>
      simp only [Op.operands, Call.operands] at hs
      have h1 : ρ f = ρ' f := hs f (by simp)
      have h2 : args.toList.map ρ = args.toList.map ρ' := List.map_congr_left fun x hx => hs x (by simp; exact .inr (by simpa using hx))
      simp only at h ⊢
      rw [← h1, ← h2]
      exact h
    | _ => simp only at h ⊢; rw [← he]; exact h
  all_goals (simp only at h ⊢; rw [← he]; exact h)

/-- Operations that look at no memory. -/
def imm : Op → Bool
  | .move _ | .pick .. | .build .. | .extract .. | .unOp .. | .index .. | .field .. => true
  | _ => false

theorem aQuiet_imm {P : Program} {ann : Ann} {o : Oper} {ρ : Operand → AV} {H H' : AH} {v : AV} (hi : imm o.op = true) (h : aQuiet P ann o ρ H v) : aQuiet P ann o ρ H' v := by
  unfold aQuiet at *
  obtain ⟨dst, op, type, pos, after, guard⟩ := o
  cases op <;> simp [imm] at hi <;> simp only [aEff] at h ⊢
  case move => cases h; rfl
  case pick => split at h <;> first | (cases h; rfl) | cases h
  case extract =>
    split at h
    · rename_i xs he
      simp only [Option.map_eq_some_iff] at h ⊢
      obtain ⟨x, h1, h2⟩ := h
      exact ⟨x, h1, by cases h2; rfl⟩
    · cases h
  all_goals
    (simp only [Option.map_eq_some_iff] at h ⊢
     obtain ⟨x, h1, h2⟩ := h
     exact ⟨x, h1, by cases h2; rfl⟩)

def guardF (ops : Array Oper) (T : Nat → Option AV) (j : Nat) : Option Bool :=
  match (ops[j]?).bind (·.dst) with
  | some d => match T d with
    | some (.bool b) => some b
    | _ => none
  | none => none
def wantF (ops : Array Oper) (o : Oper) (T : Nat → Option AV) : Option Bool :=
  match o.guard with
  | none => some true
  | some (j, w) => (guardF ops T j).map (· == w)

section
variable (P : Program) (ann : Ann) (ops : Array Oper) (N : Nat → Bool)

def stepA (i : Nat) (K : (Nat → Option AV) → AH → Prop) (T : Nat → Option AV) (H : AH) : Prop :=
  match ops[i]? with
  | none => K T H
  | some o => match wantF ops o T with
    | some true => if N i then aOp P ann o (avalF T) H (fun v H' => K (updF T o.dst v) H') else ∃ v, aQuiet P ann o (avalF T) H v ∧ K (updF T o.dst v) H
    | some false => K (updF T o.dst .undef) H
    | none => False

def anyA (Q : (Nat → Option AV) → AH → Prop) : Nat → Array Bool → (Nat → Option AV) → AH → Prop
  | 0, listed, T, H => Region.ready .any ops listed = [] ∧ Q T H
  | fuel + 1, listed, T, H => (Region.ready .any ops listed = [] → Q T H) ∧ ∀ i ∈ Region.ready .any ops listed, stepA P ann ops N i (anyA Q fuel (listed.setIfInBounds i true)) T H
end

section
variable {P : Program} {ann : Ann} {ops : Array Oper} {N : Nat → Bool} {B : Base} {n : Nat}

theorem stepA_mono {i : Nat} {K K' : (Nat → Option AV) → AH → Prop} (hk : ∀ T H, K T H → K' T H) {T : Nat → Option AV} {H : AH} (h : stepA P ann ops N i K T H) : stepA P ann ops N i K' T H := by
  unfold stepA at *
  split
  · rename_i ho; simp only [ho] at h; exact hk _ _ h
  · rename_i o ho
    simp only [ho] at h
    split
    · rename_i hw
      simp only [hw] at h
      split
      · rename_i hN; simp only [hN, if_true] at h; exact aOp_mono (fun v H' => hk _ _) h
      · rename_i hN; simp only [hN] at h; obtain ⟨v, h1, h2⟩ := h; exact ⟨v, h1, hk _ _ h2⟩
    · rename_i hw; simp only [hw] at h; exact hk _ _ h
    · rename_i hw; simp only [hw] at h

theorem guardF_sound {T : Nat → Option AV} {H : AH} {a : Act} {w : World} (hrel : RelF B n T H a w) {j : Nat} {b : Bool} (h : guardF ops T j = some b) : yielded ops a.tmps j = some b := by
  obtain ⟨hn, hdef, L, S, hr, ht⟩ := hrel
  unfold guardF at h
  split at h
  · rename_i d hd
    split at h
    · rename_i b' hb
      cases h
      obtain ⟨h1, h2⟩ := ht d _ hb
      unfold yielded
      rw [hd]
      simp only [Option.bind_some]
      have : a.tmps[d]? = some (a.tmps.getD d Go.undef) := by simp [Array.getD, h1]
      rw [this]
      generalize a.tmps.getD d Go.undef = u at h2
      cases h2
      rfl
    · cases h
  · cases h

theorem wantF_sound {T : Nat → Option AV} {H : AH} {a : Act} {w : World} (hrel : RelF B n T H a w) {o : Oper} {b : Bool} (h : wantF ops o T = some b) : Region.wanted o (yielded ops a.tmps) = b := by
  unfold wantF at h
  unfold Region.wanted
  split at h
  · rename_i hg; cases h; simp [hg]
  · rename_i j wt hg
    try simp only [hg]
    cases hgf : guardF ops T j with
    | none => simp [hgf] at h
    | some c =>
      simp [hgf] at h
      rw [guardF_sound hrel hgf]
      subst h
      simp

theorem RelF.put_undef {T : Nat → Option AV} {H : AH} {a : Act} {w : World} (h : RelF B n T H a w) (d : Option Tmp) (hd : ∀ t, d = some t → t < n) : RelF B n (updF T d .undef) H (a.put d Go.undef) w := by
  obtain ⟨hn, hdef, L, S, hr, ht⟩ := h
  exact ⟨by rw [put_size]; exact hn, by rw [put_defers]; exact hdef, L, S, hr, ht.put _ (.undef _) (fun t e => by rw [hn]; exact hd t e)⟩

theorem anyA_sound (hd : dstsIn n ops.toList = true) {Q : (Nat → Option AV) → AH → Prop} {Q' : Exit → Act → World → Prop} (hQ : ∀ T H a w, Q T H → RelF B n T H a w → Q' .normal a w) : ∀ (fuel : Nat) (listed : Array Bool) (T : Nat → Option AV) (H : AH) (a : Act) (w : World),
    RelF B n T H a w → anyA P ann ops N Q fuel listed T H → wpAny P .any ops Q' fuel listed a w
  | 0, listed, T, H, a, w, hrel, h => ⟨h.1, hQ _ _ _ _ h.2 hrel⟩
  | fuel + 1, listed, T, H, a, w, hrel, h => by
    refine ⟨fun h0 => hQ _ _ _ _ (h.1 h0) hrel, fun i hi => ?_⟩
    have hst := h.2 i hi
    unfold stepA at hst
    unfold wpOp
    split
    · rename_i ho
      simp only [ho] at hst
      exact anyA_sound hd hQ fuel _ _ _ _ _ hrel hst
    · rename_i o ho
      simp only [ho] at hst
      have hdo : ∀ t, o.dst = some t → t < n := fun t e => by
        have hm : o ∈ ops.toList := by
          have := Array.mem_of_getElem? ho
          simpa using this
        have := List.all_eq_true.1 hd o hm
        rw [e] at this
        simpa using this
      split at hst
      · rename_i hw
        rw [if_pos (wantF_sound hrel hw)]
        refine .inl ?_
        have hop : aOp P ann o (avalF T) H (fun v H' => anyA P ann ops N Q fuel (listed.setIfInBounds i true) (updF T o.dst v) H') := by
          split at hst
          · exact hst
          · obtain ⟨v, h1, h2⟩ := hst; exact aOp_of_quiet h1 h2
        exact Oper.wp_mono (fun a' w' ⟨v, H', hK, hR⟩ => anyA_sound hd hQ fuel _ _ _ a' w' hR hK) (aOp_soundF (Q := Q') hrel hdo hop)
      · rename_i hw
        rw [if_neg (by rw [wantF_sound hrel hw]; simp)]
        exact anyA_sound hd hQ fuel _ _ _ _ _ (hrel.put_undef o.dst hdo) hst
      · cases hst

/-- Operation o yields v here, quietly. -/
def YA (P : Program) (ann : Ann) (ops : Array Oper) (o : Oper) (v : AV) (T : Nat → Option AV) (H : AH) : Prop :=
  (wantF ops o T = some true ∧ aQuiet P ann o (avalF T) H v) ∨ (wantF ops o T = some false ∧ v = .undef)

theorem avalF_upd {T : Nat → Option AV} {d : Option Tmp} {v : AV} {x : Operand} (h : ∀ t, d = some t → x ≠ .tmp t) : avalF (updF T d v) x = avalF T x := by
  cases x with
  | tmp t =>
    have hne : d ≠ some t := fun e => h t e rfl
    simp [avalF, updF, hne]
  | _ => rfl

theorem ops_upd {T : Nat → Option AV} {d : Option Tmp} {v : AV} {o : Oper} (h : ∀ t, d = some t → t ∉ o.looksAt ops) : ∀ x ∈ o.op.operands, avalF (updF T d v) x = avalF T x := fun x hx =>
  avalF_upd fun t e hxt => h t e (by
    subst hxt
    exact List.mem_append_left _ (List.mem_filterMap.2 ⟨.tmp t, by simpa using hx, rfl⟩))

theorem wantF_upd {T : Nat → Option AV} {d : Option Tmp} {v : AV} {o : Oper} (h : ∀ t, d = some t → t ∉ o.looksAt ops) : wantF ops o (updF T d v) = wantF ops o T := by
  unfold wantF
  cases hg : o.guard with
  | none => rfl
  | some jw =>
    obtain ⟨j, w⟩ := jw
    simp only
    congr 1
    unfold guardF
    cases ht : (ops[j]?).bind (·.dst) with
    | none => rfl
    | some t =>
      have hne : d ≠ some t := fun e => h t e (by simp [Oper.looksAt, hg, ht])
      simp [updF, hne]

theorem updF_comm (T : Nat → Option AV) {d e : Option Tmp} (u v : AV) (h : ∀ t, d = some t → e ≠ some t) : updF (updF T d u) e v = updF (updF T e v) d u := by
  funext t
  unfold updF
  by_cases h1 : d = some t
  · have h2 : e ≠ some t := h t h1
    simp [h1, h2]
  · simp [h1]

theorem YA.keep {oi oj : Oper} {v u : AV} {T : Nat → Option AV} {H H' : AH} (hap : oi.apart ops oj = true) (hy : YA P ann ops oi v T H) (hH : H' = H ∨ imm oi.op = true) : YA P ann ops oi v (updF T oj.dst u) H' := by
  obtain ⟨h1, h2, h3⟩ := Oper.apart_spec hap
  unfold YA at *
  rw [wantF_upd h3]
  rcases hy with ⟨hw, hq⟩ | ⟨hw, rfl⟩
  · refine .inl ⟨hw, ?_⟩
    have hq' := aQuiet_congr (fun x hx => (ops_upd (v := u) (T := T) h3 x hx).symm) hq
    rcases hH with rfl | hi
    · exact hq'
    · exact aQuiet_imm hi hq'
  · exact .inr ⟨hw, rfl⟩

theorem stepA_put {i j : Nat} {oi oj : Oper} {v : AV} (hj : ops[j]? = some oj) (hap : oi.apart ops oj = true) (hN : N j = false ∨ imm oi.op = true) {K : (Nat → Option AV) → AH → Prop} {T : Nat → Option AV} {H : AH}
    (hy : YA P ann ops oi v T H) (h : stepA P ann ops N j K (updF T oi.dst v) H) : stepA P ann ops N j (fun T' H' => YA P ann ops oi v T' H' ∧ K (updF T' oi.dst v) H') T H := by
  obtain ⟨h1, h2, h3⟩ := Oper.apart_spec hap
  unfold stepA at *
  simp only [hj] at *
  rw [wantF_upd h1] at h
  split at h
  · rename_i hw
    split at h
    · rename_i hNj
      rw [if_pos hNj]
      have hi : imm oi.op = true := by rcases hN with h4 | h4; rw [hNj] at h4; cases h4; exact h4
      have hc := aOp_congr (fun x hx => ops_upd (v := v) (T := T) h1 x hx) h
      refine aOp_mono (fun u H' hK => ⟨hy.keep hap (.inr hi), ?_⟩) hc
      rw [← updF_comm _ _ _ h2]
      exact hK
    · rename_i hNj
      rw [if_neg hNj]
      obtain ⟨u, hq, hK⟩ := h
      refine ⟨u, aQuiet_congr (fun x hx => ops_upd (v := v) (T := T) h1 x hx) hq, hy.keep hap (.inl rfl), ?_⟩
      rw [← updF_comm _ _ _ h2]
      exact hK
  · refine ⟨hy.keep hap (.inl rfl), ?_⟩
    rw [← updF_comm _ _ _ h2]
    exact h
  · cases h

theorem YA.step {i : Nat} {oi : Oper} {v : AV} (hi : ops[i]? = some oi) (hNi : N i = false) {K : (Nat → Option AV) → AH → Prop} {T : Nat → Option AV} {H : AH} (hy : YA P ann ops oi v T H) (h : K (updF T oi.dst v) H) : stepA P ann ops N i K T H := by
  unfold stepA
  try simp only [hi]
  rcases hy with ⟨hw, hq⟩ | ⟨hw, rfl⟩
  · simp only [hw]; rw [if_neg (by simp [hNi])]; exact ⟨v, hq, h⟩
  · simp only [hw]; exact h

theorem closed_set {listed : Array Bool} {j : Nat} (hc : Closed ops listed) (hj : j ∈ Region.ready .any ops listed) : Closed ops (listed.setIfInBounds j true) := by
  obtain ⟨h0, oj, hoj, hall⟩ := mem_ready.1 hj
  intro k o hk hl e he hb
  by_cases hkj : j = k
  · subst hkj
    rw [hoj] at hk; cases hk
    exact getD_set_true (hall e he hb)
  · refine getD_set_true (hc k o hk ?_ e he hb)
    have : (listed.setIfInBounds j true).getD k false = listed.getD k false := by simp [Array.getElem?_setIfInBounds_ne hkj]
    rw [← this]; exact hl

theorem anyA_first {Q : (Nat → Option AV) → AH → Prop} {i : Nat} {oi : Oper} {v : AV} (hi : ops[i]? = some oi) (hNi : N i = false) : ∀ (fuel : Nat) (listed : Array Bool) (T : Nat → Option AV) (H : AH), Closed ops listed →
    (∀ j oj, ops[j]? = some oj → j ≠ i → listed.getD j true = false → anc ops i j = true ∨ (oi.apart ops oj = true ∧ (N j = false ∨ imm oi.op = true))) →
    i ∈ Region.ready .any ops listed → YA P ann ops oi v T H → anyA P ann ops N Q fuel (listed.setIfInBounds i true) (updF T oi.dst v) H → anyA P ann ops N Q (fuel + 1) listed T H := by
  intro fuel
  induction fuel with
  | zero =>
    intro listed T H hc hfree hr hy h
    refine ⟨fun h => (by rw [h] at hr; cases hr), fun j hj => ?_⟩
    by_cases hji : j = i
    · subst hji; exact hy.step hi hNi h
    · have := ready_mono hj hji
      rw [h.1] at this
      cases this
  | succ fuel ih =>
    intro listed T H hc hfree hr hy h
    refine ⟨fun h => (by rw [h] at hr; cases hr), fun j hj => ?_⟩
    by_cases hji : j = i
    · subst hji; exact hy.step hi hNi h
    · have h1 := h.2 j (ready_mono hj hji)
      obtain ⟨hjun, oj, hoj, hall⟩ := mem_ready.1 hj
      have hun := (mem_ready.1 hr).1
      have hnanc : ¬ anc ops i j = true := fun ha => by
        have h2 := anc_listed hc j oj i hoj hall ha
        rcases Nat.lt_or_ge i listed.size with h' | h'
        · simp [h'] at hun h2; rw [hun] at h2; cases h2
        · simp [Array.getElem?_eq_none h'] at h2
      obtain ⟨hap, hN⟩ := (hfree j oj hoj hji hjun).resolve_left hnanc
      have h2 := stepA_put (i := i) hoj hap hN hy h1
      refine stepA_mono (fun T' H' h3 => ih (listed.setIfInBounds j true) T' H' (closed_set hc hj) ?_ (ready_mono hr (Ne.symm hji)) h3.1 ?_) h2
      · intro k ok hk hki hkun
        refine hfree k ok hk hki ?_
        by_cases hjk : j = k
        · subst hjk; exact hjun
        · rw [getD_set_ne true hjk] at hkun; exact hkun
      · rw [Array.setIfInBounds_comm _ _ hji]
        exact h3.2
end
end Go.AL
