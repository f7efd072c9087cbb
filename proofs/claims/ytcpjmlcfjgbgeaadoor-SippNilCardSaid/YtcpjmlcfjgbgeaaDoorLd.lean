/- The abstract logic over any program: contracts. It asks nothing of the program. -/
import Derived.Test.YtcpjmlcfjgbgeaaDoorLc
set_option linter.unusedVariables false
set_option linter.unusedSimpArgs false
namespace Go.AL
open Go

/-- May the text's order stand for every order? N: the operations that may turn memory. -/
def lexN (ops : Array Oper) (N : Nat → Bool) : Bool := (List.range ops.size).all fun k => match ops[k]? with
  | none => false
  | some ok => ok.after.all (fun e => !Region.binds .any e || decide (e.on < k)) && (List.range ops.size).all fun j => decide (j ≤ k) || match ops[j]? with
    | none => true
    | some oj => anc ops k j || (!N k && ok.apart ops oj && (!N j || imm ok.op))

def Lx (ops : Array Oper) (k : Nat) (listed : Array Bool) : Prop := listed.size = ops.size ∧ ∀ j, j < ops.size → listed[j]? = some (decide (j < k))

theorem Lx.getD {ops : Array Oper} {k : Nat} {listed : Array Bool} (h : Lx ops k listed) {j : Nat} (d : Bool) (hj : j < ops.size) : listed.getD j d = decide (j < k) := by
  have := h.2 j hj
  rw [Array.getD_eq_getD_getElem?, this]; rfl

theorem Lx.step {ops : Array Oper} {k : Nat} {listed : Array Bool} (h : Lx ops k listed) (hk : k < ops.size) : Lx ops (k + 1) (listed.setIfInBounds k true) := by
  refine ⟨by simp [h.1], fun j hj => ?_⟩
  by_cases e : k = j
  · subst e
    rw [Array.getElem?_setIfInBounds_self_of_lt (by rw [h.1]; exact hk)]
    simp
  · rw [Array.getElem?_setIfInBounds_ne e, h.2 j hj]
    congr 1
    simp; omega

section
variable {P : Program} {ann : Ann} {ops : Array Oper} {N : Nat → Bool}

theorem lexN_edges (h : lexN ops N = true) {k : Nat} {o : Oper} (ho : ops[k]? = some o) : ∀ e ∈ o.after, Region.binds .any e = true → e.on < k := by
  have hk : k < ops.size := (Array.getElem?_eq_some_iff.1 ho).1
  have := List.all_eq_true.1 h k (by simpa using hk)
  simp only [ho, Bool.and_eq_true, Array.all_eq_true_iff_forall_mem] at this
  intro e he hb
  have h1 := this.1 e he
  simpa [hb] using h1

theorem lexN_pair (h : lexN ops N = true) {k j : Nat} {ok oj : Oper} (hk : ops[k]? = some ok) (hj : ops[j]? = some oj) (hlt : k < j) : anc ops k j = true ∨ (N k = false ∧ ok.apart ops oj = true ∧ (N j = false ∨ imm ok.op = true)) := by
  have hk' : k < ops.size := (Array.getElem?_eq_some_iff.1 hk).1
  have hj' : j < ops.size := (Array.getElem?_eq_some_iff.1 hj).1
  have := List.all_eq_true.1 h k (by simpa using hk')
  simp only [hk, Bool.and_eq_true] at this
  have h2 := List.all_eq_true.1 this.2 j (by simpa using hj')
  simp only [hj, Bool.or_eq_true, decide_eq_true_eq, Bool.and_eq_true, Bool.not_eq_true'] at h2
  rcases h2 with h3 | h3 | ⟨⟨h3, h4⟩, h5⟩
  · omega
  · exact .inl h3
  · exact .inr ⟨h3, h4, h5⟩

theorem Lx.closed (h : lexN ops N = true) {k : Nat} {listed : Array Bool} (hl : Lx ops k listed) : Closed ops listed := by
  intro j o ho hj e he hb
  have hjs : j < ops.size := (Array.getElem?_eq_some_iff.1 ho).1
  have he' := lexN_edges h ho e he hb
  rw [hl.getD false hjs] at hj
  rw [hl.getD false (by omega)]
  simp at hj ⊢
  omega

theorem Lx.ready (h : lexN ops N = true) {k : Nat} {listed : Array Bool} (hl : Lx ops k listed) {o : Oper} (ho : ops[k]? = some o) : k ∈ Region.ready .any ops listed := by
  have hks : k < ops.size := (Array.getElem?_eq_some_iff.1 ho).1
  rw [mem_ready]
  refine ⟨by rw [hl.getD true hks]; simp, o, ho, fun e he hb => ?_⟩
  have he' := lexN_edges h ho e he hb
  rw [hl.getD false (by omega)]
  simpa using he'

/-- The operations in the text's order: those of N may turn memory, the others yield one answer quietly. -/
def dOps (P : Program) (ann : Ann) (ops : Array Oper) (N : Nat → Bool) (Q : AState → Prop) : Nat → List Oper → AState → Prop
  | _, [], s => Q s
  | k, o :: rest, s => match wantF ops o (lget s.tmps) with
    | some true => if N k then aOp P ann o (aval s.tmps) s.H (fun v H' => dOps P ann ops N Q (k + 1) rest ⟨tput s.tmps o.dst v, H'⟩)
      else ∃ v, aQuiet P ann o (aval s.tmps) s.H v ∧ dOps P ann ops N Q (k + 1) rest ⟨tput s.tmps o.dst v, s.H⟩
    | some false => dOps P ann ops N Q (k + 1) rest ⟨tput s.tmps o.dst .undef, s.H⟩
    | none => False

theorem dOps_any (hlex : lexN ops N = true) {Q : AState → Prop} : ∀ (l : List Oper) (k : Nat) (listed : Array Bool) (s : AState), (∀ j, l[j]? = ops[k + j]?) → Lx ops k listed → dOps P ann ops N Q k l s →
    anyA P ann ops N (fun T H => ∃ ts, lget ts = T ∧ Q ⟨ts, H⟩) l.length listed (lget s.tmps) s.H
  | [], k, listed, s, hl, hx, h => by
    have hk : ops.size ≤ k := by
      have := hl 0
      simp at this
      exact this
    refine ⟨?_, s.tmps, rfl, h⟩
    rw [List.eq_nil_iff_forall_not_mem]
    intro j hj
    obtain ⟨h1, o, ho, _⟩ := mem_ready.1 hj
    have hjs : j < ops.size := (Array.getElem?_eq_some_iff.1 ho).1
    rw [hx.getD true hjs] at h1
    simp at h1
    omega
  | o :: l, k, listed, s, hl, hx, h => by
    have h0 : ops[k]? = some o := by simpa using (hl 0).symm
    have hks : k < ops.size := (Array.getElem?_eq_some_iff.1 h0).1
    have hr := hx.ready hlex h0
    have hc := hx.closed hlex
    have hl' : ∀ j, l[j]? = ops[k + 1 + j]? := fun j => by have := hl (j + 1); simpa [Nat.add_assoc, Nat.add_comm 1 j] using this
    simp only [dOps] at h
    rw [List.length_cons]
    by_cases hN : N k = true
    · -- it alone may come now
      refine ⟨fun h => (by rw [h] at hr; cases hr), fun i hi => ?_⟩
      have hik : i = k := by
        obtain ⟨h1, oi, hoi, hall⟩ := mem_ready.1 hi
        have his : i < ops.size := (Array.getElem?_eq_some_iff.1 hoi).1
        rw [hx.getD true his] at h1
        simp at h1
        by_cases e : i = k
        · exact e
        · rcases lexN_pair hlex h0 hoi (by omega) with h2 | ⟨h2, _⟩
          · have := anc_listed hc i oi k hoi hall h2
            rw [hx.getD false hks] at this
            simp at this
          · rw [hN] at h2; cases h2
      subst hik
      unfold stepA
      try simp only [h0]
      split at h
      · rename_i hw
        try simp only [hw]
        rw [if_pos hN] at h ⊢
        rw [aval_eq] at h
        refine aOp_mono (fun v H' hK => ?_) h
        have := dOps_any hlex l (i + 1) (listed.setIfInBounds i true) _ hl' (hx.step hks) hK
        rw [lget_tput] at this
        exact this
      · rename_i hw
        try simp only [hw]
        have := dOps_any hlex l (i + 1) (listed.setIfInBounds i true) _ hl' (hx.step hks) h
        rw [lget_tput] at this
        exact this
      · cases h
    · have hN' : N k = false := by simpa using hN
      have free : ∀ j oj, ops[j]? = some oj → j ≠ k → listed.getD j true = false → anc ops k j = true ∨ (o.apart ops oj = true ∧ (N j = false ∨ imm o.op = true)) := fun j oj hj hne hun => by
        have hjs : j < ops.size := (Array.getElem?_eq_some_iff.1 hj).1
        rw [hx.getD true hjs] at hun
        simp at hun
        rcases lexN_pair hlex h0 hj (by omega) with h2 | ⟨_, h3, h4⟩
        · exact .inl h2
        · exact .inr ⟨h3, h4⟩
      split at h
      · rename_i hw
        rw [if_neg hN] at h
        obtain ⟨v, hq, hK⟩ := h
        have := dOps_any hlex l (k + 1) (listed.setIfInBounds k true) _ hl' (hx.step hks) hK
        rw [lget_tput] at this
        rw [aval_eq] at hq
        exact anyA_first h0 hN' l.length listed _ _ hc free hr (.inl ⟨hw, hq⟩) this
      · rename_i hw
        have := dOps_any hlex l (k + 1) (listed.setIfInBounds k true) _ hl' (hx.step hks) h
        rw [lget_tput] at this
        exact anyA_first h0 hN' l.length listed _ _ hc free hr (.inr ⟨hw, rfl⟩) this
      · cases h

theorem RelF.drew {B : Base} {n : Nat} {T : Nat → Option AV} {H : AH} {a : Act} {w : World} (h : RelF B n T H a w) : RelF B n T H a { w with drawn := w.drawn + 1 } := by
  obtain ⟨hn, hdef, L, S, hr, ht⟩ := h
  have hg := hr.grow (w' := w.drew) rfl rfl rfl (Nat.le_refl _) (fun b _ => rfl) (fun _ => False) (fun b hb => hb.elim)
  exact ⟨hn, hdef, L, _, hg.1, ht.mono (Lay.le_refl _) (fun b h => .inl h) hg.2⟩

theorem Ok.draw {B : Base} {n : Nat} {s : AState} {Q : Exit → AState → Prop} {id : Nat} (ann : Ann) (N : Nat → Bool) (hm : P.follows .mixedOrders = true) (hd : dstsIn n ops.toList = true) (hlex : lexN ops N = true)
    (h : dOps P ann ops N (Q .normal) 0 ops.toList s) : Ok P B n (.region id ops true) s Q := fun a w hrel => by
  have hany := dOps_any hlex ops.toList 0 (Array.replicate ops.size false) s (by simp) ⟨by simp, fun j hj => by simp [hj]⟩ h
  refine wp_region_any hm ?_
  have := anyA_sound (B := B) (n := n) (Q' := post B n Q) hd (fun T H a w ⟨ts, h1, h2⟩ hR => ⟨⟨ts, H⟩, h2, by unfold RelN; rw [h1]; exact hR⟩) _ _ _ _ a _ (RelF.drew hrel) hany
  simpa using this
end
end Go.AL
namespace Go.AL
open Go

-- All objects that a value names are among some.
mutual
def AV.inK (dom : Key → Bool) : AV → Bool
  | .vs _ xs | .vp xs | .agg xs | .tup xs => inKs dom xs
  | .sl k _ _ _ _ | .ptr k _ _ | .map k _ => dom k
  | .fn _ xs ys => inKs dom xs && inKs dom ys
  | _ => true
def inKs (dom : Key → Bool) : List AV → Bool
  | [] => true
  | x :: xs => x.inK dom && inKs dom xs
end

theorem inKs_eq (dom : Key → Bool) (xs : List AV) : inKs dom xs = xs.all (AV.inK dom) := by
  induction xs with
  | nil => rfl
  | cons x xs ih => simp [inKs, ih]
theorem inKs_get {dom : Key → Bool} {xs : List AV} (h : inKs dom xs = true) {j : Nat} {x : AV} (hx : xs[j]? = some x) : x.inK dom = true := by
  rw [inKs_eq, List.all_eq_true] at h
  exact h x (List.mem_of_getElem? hx)

def Lay.res (L : Lay) (dom : Key → Bool) : Lay := fun k => if dom k then L k else none

theorem VR.res {L : Lay} {S : Nat → Prop} {w : World} {dom : Key → Bool} {x : AV} {u : Value} (h : VR L S w x u) (hx : x.inK dom = true) : VR (L.res dom) S w x u := by
  have lk : ∀ {k : Key} {r : Reg}, L k = some r → dom k = true → L.res dom k = some r := fun h1 h2 => by simp [Lay.res, h1, h2]
  induction h with
  | bool b => exact .bool b
  | int k n => exact .int k n
  | str s => exact .str s
  | nil => exact .nil
  | vs0 a cap => exact .vs0 a cap
  | vs hSb hcap us hl hc hv ih => exact .vs hSb hcap us hl hc fun j x u h1 h2 => ih j x u h1 h2 (inKs_get (by simpa [AV.inK] using hx) h1)
  | vp hSb us hl hc hv ih => exact .vp hSb us hl hc fun j x u h1 h2 => ih j x u h1 h2 (inKs_get (by simpa [AV.inK] using hx) h1)
  | slStale h1 h2 a n c => exact .slStale (lk h1 (by simpa [AV.inK] using hx)) h2 a n c
  | sl h1 h2 h3 h4 h5 => exact .sl (lk h1 (by simpa [AV.inK] using hx)) h2 h3 h4 h5
  | slEnd h1 h2 h3 a => exact .slEnd (lk h1 (by simpa [AV.inK] using hx)) h2 h3 a
  | slNone h1 h2 h3 => exact .slNone (lk h1 (by simpa [AV.inK] using hx)) h2 h3
  | ptrStale h1 h2 a => exact .ptrStale (lk h1 (by simpa [AV.inK] using hx)) h2 a
  | ptr h1 h2 h3 => exact .ptr (lk h1 (by simpa [AV.inK] using hx)) h2 h3
  | nilp => exact .nilp
  | mapStale h1 h2 a => exact .mapStale (lk h1 (by simpa [AV.inK] using hx)) h2 a
  | map h1 h2 h3 => exact .map (lk h1 (by simpa [AV.inK] using hx)) h2 h3
  | nilmap => exact .nilmap
  | fn us ws hl hl' hv hv' ih ih' =>
    simp only [AV.inK, Bool.and_eq_true] at hx
    exact .fn us ws hl hl' (fun j x u h1 h2 => ih j x u h1 h2 (inKs_get hx.1 h1)) fun j x u h1 h2 => ih' j x u h1 h2 (inKs_get hx.2 h1)
  | agg us hl hv ih => exact .agg us hl fun j x u h1 h2 => ih j x u h1 h2 (inKs_get (by simpa [AV.inK] using hx) h1)
  | tup us hl hv ih => exact .tup us hl fun j x u h1 h2 => ih j x u h1 h2 (inKs_get (by simpa [AV.inK] using hx) h1)
  | undef u => exact .undef u

theorem VRs_inK {L : Lay} {S : Nat → Prop} {w : World} {dom : Key → Bool} {xs : List AV} {us : List Value} (hl : us.length = xs.length)
    (h : ∀ (j : Nat) (x : AV) (u : Value), xs[j]? = some x → us[j]? = some u → x.inK dom = true) : inKs dom xs = true := by
  rw [inKs_eq, List.all_eq_true]
  intro x hx
  obtain ⟨j, hj⟩ := List.mem_iff_getElem?.1 hx
  have hlt : j < us.length := by rw [hl]; exact (List.getElem?_eq_some_iff.1 hj).1
  exact h j x us[j] hj (List.getElem?_eq_getElem hlt)

theorem VR.inK {L : Lay} {S : Nat → Prop} {w : World} {dom : Key → Bool} (hd : ∀ k r, L k = some r → dom k = true) {x : AV} {u : Value} (h : VR L S w x u) : x.inK dom = true := by
  induction h with
  | vs0 a cap => rfl
  | vs hSb hcap us hl hc hv ih => simp only [AV.inK]; exact VRs_inK (us := us) hl ih (L := L) (S := S) (w := w)
  | vp hSb us hl hc hv ih => simp only [AV.inK]; exact VRs_inK (us := us) hl ih (L := L) (S := S) (w := w)
  | slStale h1 h2 a n c => exact hd _ _ h1
  | sl h1 h2 h3 h4 h5 => exact hd _ _ h1
  | slEnd h1 h2 h3 a => exact hd _ _ h1
  | slNone h1 h2 h3 => exact hd _ _ h1
  | ptrStale h1 h2 a => exact hd _ _ h1
  | ptr h1 h2 h3 => exact hd _ _ h1
  | mapStale h1 h2 a => exact hd _ _ h1
  | map h1 h2 h3 => exact hd _ _ h1
  | fn us ws hl hl' hv hv' ih ih' => simp only [AV.inK, Bool.and_eq_true]; exact ⟨VRs_inK (us := us) hl ih (L := L) (S := S) (w := w), VRs_inK (us := ws) hl' ih' (L := L) (S := S) (w := w)⟩
  | agg us hl hv ih => simp only [AV.inK]; exact VRs_inK (us := us) hl ih (L := L) (S := S) (w := w)
  | tup us hl hv ih => simp only [AV.inK]; exact VRs_inK (us := us) hl ih (L := L) (S := S) (w := w)
  | _ => rfl

theorem OR.res {L : Lay} {S : Nat → Prop} {w : World} {dom : Key → Bool} {r : Reg} {o : AObj} (h : OR L S w r o) (hx : inKs dom o.vals = true) : OR (L.res dom) S w r o := by
  cases h with
  | none h1 h2 h3 => exact .none h1 h2 h3
  | cells h1 h2 h3 h4 h5 h6 => exact .cells h1 h2 h3 h4 h5 fun j x hj => let ⟨u, h7, h8⟩ := h6 j x hj; ⟨u, h7, h8.res (inKs_get hx hj)⟩
  | map h1 h2 h3 h4 h5 h6 =>
    simp only [AObj.vals, inKs_eq, List.all_append, Bool.and_eq_true, List.all_eq_true] at hx
    refine .map h1 h2 h3 h4 (fun j p m a b => (h5 j p m a b).res (hx.1 p.1 (List.mem_map.2 ⟨p, List.mem_of_getElem? a, rfl⟩))) fun j p m a b => (h6 j p m a b).res (hx.2 p.2 (List.mem_map.2 ⟨p, List.mem_of_getElem? a, rfl⟩))

/-- The objects of some keys alone. -/
theorem HR.res {B : Base} {L : Lay} {S : Nat → Prop} {H H' : AH} {w : World} (h : HR B L S H w) {dom : Key → Bool} (hget : ∀ k, H'.get k = if dom k then H.get k else none)
    (hv : ∀ k o, H'.get k = some o → inKs dom o.vals = true) (hB : ∀ i r, B.L (.hp i) = some r → dom (.hp i) = true) : HR B (L.res dom) S H' w where
  obj := fun k o ho => by
    have hin := hv k o ho
    rw [hget] at ho
    split at ho
    · rename_i hd
      obtain ⟨r, hL, hor⟩ := h.obj k o ho
      refine ⟨r, by simp [Lay.res, hd, hL], ?_⟩
      cases k with
      | loc κ => exact hor.res hin
      | hp i =>
        have := hor.res (dom := dom) hin
        have e : (L.hpOnly).res dom = (L.res dom).hpOnly := by funext k; cases k <;> simp [Lay.res, Lay.hpOnly]
        show OR (L.res dom).hpOnly S w r o
        rw [← e]; exact this
    · cases ho
  dom := fun k r hr => by
    simp only [Lay.res] at hr
    split at hr
    · rename_i hd; rw [hget, if_pos hd]; exact h.dom k r hr
    · cases hr
  inj := fun k1 k2 r1 r2 b h1 h2 h3 h4 => by
    simp only [Lay.res] at h1 h2
    split at h1 <;> split at h2 <;> first | exact h.inj k1 k2 r1 r2 b h1 h2 h3 h4 | cases h1 | cases h2
  lt := fun k r b h1 h2 => by
    simp only [Lay.res] at h1
    split at h1 <;> first | exact h.lt k r b h1 h2 | cases h1
  stab := fun k r b h1 h2 => by
    simp only [Lay.res] at h1
    split at h1 <;> first | exact h.stab k r b h1 h2 | cases h1
  own := fun k r b h1 h2 => by
    simp only [Lay.res] at h1
    split at h1 <;> first | exact h.own k r b h1 h2 | cases h1
  Slt := h.Slt
  Sb := h.Sb
  S0 := h.S0
  os := h.os
  tape := h.tape
  output := h.output
  size := h.size
  keep := h.keep
  lay := fun i r hr => by
    obtain ⟨r', h1, h2, h3⟩ := h.lay i r hr
    exact ⟨r', by simp [Lay.res, hB i r hr, h1], h2, h3⟩

def keepT {α : Type} (sl : List Nat) (ts : List (Nat × α)) : List (Nat × α) := ts.filter fun p => sl.contains p.1

theorem lget_keepT {α : Type} (sl : List Nat) (ts : List (Nat × α)) (t : Nat) : lget (keepT sl ts) t = if sl.contains t then lget ts t else none := by
  induction ts with
  | nil => simp [keepT, lget_nil]
  | cons p ts ih =>
    obtain ⟨k, v⟩ := p
    simp only [keepT, List.filter_cons]
    by_cases hk : sl.contains k = true
    · rw [if_pos hk]
      simp only [lget_cons]
      by_cases e : k = t
      · subst e; rw [if_pos rfl, if_pos hk]; simp
      · simp only [e, if_false]; exact ih
    · rw [if_neg hk]
      simp only [lget_cons]
      by_cases e : k = t
      · subst e
        have := ih
        simp only [keepT] at this
        rw [this, if_neg hk, if_neg hk]
      · simp only [e, if_false]; exact ih

def domL (κs : List Nat) : Key → Bool
  | .loc κ => κs.contains κ
  | .hp _ => true

/-- Some temporaries and local objects are kept. -/
def AState.keep (sl κs : List Nat) (s : AState) : AState := ⟨keepT sl s.tmps, ⟨keepT κs s.H.locs, s.H.heap⟩⟩

def AState.closed (κs : List Nat) (s : AState) : Bool := s.tmps.all (fun p => p.2.inK (domL κs)) && s.H.locs.all (fun p => inKs (domL κs) p.2.vals)

theorem lget_mem {α : Type} {ts : List (Nat × α)} {t : Nat} {v : α} (h : lget ts t = some v) : (t, v) ∈ ts := by
  induction ts with
  | nil => simp [lget_nil] at h
  | cons p ts ih =>
    obtain ⟨k, o⟩ := p
    simp only [lget_cons] at h
    split at h
    · rename_i e; subst e; cases h; exact List.mem_cons_self
    · exact List.mem_cons_of_mem _ (ih h)

theorem OR.inK {L : Lay} {S : Nat → Prop} {w : World} {dom : Key → Bool} (hd : ∀ k r, L k = some r → dom k = true) {r : Reg} {o : AObj} (h : OR L S w r o) : inKs dom o.vals = true := by
  rw [inKs_eq, List.all_eq_true]
  intro x hx
  cases h with
  | none h1 h2 h3 => simp [AObj.vals] at hx
  | cells h1 h2 h3 h4 h5 h6 =>
    obtain ⟨j, hj⟩ := List.mem_iff_getElem?.1 hx
    obtain ⟨u, _, hv⟩ := h6 j x hj
    exact hv.inK hd
  | map h1 h2 h3 h4 h5 h6 =>
    rename_i ents clock
    simp only [AObj.vals, List.mem_append, List.mem_map] at hx
    rcases hx with ⟨p, hp, rfl⟩ | ⟨p, hp, rfl⟩
    · obtain ⟨j, hj⟩ := List.mem_iff_getElem?.1 hp
      have hlt : j < ents.size := by rw [h4]; exact (List.getElem?_eq_some_iff.1 hj).1
      exact (h5 j p ents[j] hj (by simp [hlt])).inK hd
    · obtain ⟨j, hj⟩ := List.mem_iff_getElem?.1 hp
      have hlt : j < ents.size := by rw [h4]; exact (List.getElem?_eq_some_iff.1 hj).1
      exact (h6 j p ents[j] hj (by simp [hlt])).inK hd

theorem RelN.keep {B : Base} {n : Nat} {s : AState} {a : Act} {w : World} (h : RelN B n s a w) (sl κs : List Nat) (hc : (s.keep sl κs).closed κs = true) : RelN B n (s.keep sl κs) a w := by
  obtain ⟨hn, hdef, L, S, hr, ht⟩ := h
  simp only [AState.closed, Bool.and_eq_true, List.all_eq_true] at hc
  obtain ⟨hc1, hc2⟩ := hc
  have hget : ∀ k, (s.keep sl κs).H.get k = if domL κs k then s.H.get k else none := fun k => by
    cases k with
    | loc κ => simp only [AState.keep, AH.get, lget_keepT, domL]; rfl
    | hp i => simp [AState.keep, AH.get, domL]
  refine ⟨hn, hdef, L.res (domL κs), S, hr.res hget ?_ (fun i r _ => rfl), ?_⟩
  · intro k o ho
    cases k with
    | loc κ => exact hc2 _ (lget_mem ho)
    | hp i =>
      obtain ⟨r, hL, hor⟩ := hr.obj (.hp i) o ho
      exact hor.inK fun k r hk => by
        cases k with
        | loc κ => simp [Lay.at, Lay.hpOnly] at hk
        | hp i => rfl
  · intro t v hv
    have hv' : lget s.tmps t = some v := by
      have := lget_keepT sl s.tmps t
      have h2 : lget (keepT sl s.tmps) t = some v := hv
      rw [this] at h2
      split at h2
      · exact h2
      · cases h2
    obtain ⟨h1, h2⟩ := ht t v hv'
    exact ⟨h1, h2.res (hc1 _ (lget_mem hv))⟩
end Go.AL
namespace Go.AL
open Go

theorem aLoad_var {P : Program} {B : Base} {L : Lay} {S : Nat → Prop} {H : AH} {w : World} (hr : HR B L S H w) {t : TypeId} {p v : AV} {u : Value} (h : aLoad P t p H = some v) (hv : VR L S w p u) :
    ∃ a x, u = .pointer (some a) ∧ (loadVar t a).run P w = .ok x w ∧ VR L S w v x := by
  obtain ⟨x, h1, h2⟩ := aLoad_sound (P := P) hr h hv
  have hp : ∃ xs, pcells H p = some xs := by
    unfold aLoad at h
    split at h
    · rename_i xs _ hp _; exact ⟨_, hp⟩
    · rename_i xs _ hp _; exact ⟨_, hp⟩
    · cases h
  obtain ⟨xs, hp⟩ := hp
  obtain ⟨b, o, us, rfl, hc⟩ := pcells_sound hr hp hv
  refine ⟨_, x, rfl, ?_, h2⟩
  simpa [Instr.loadAt, Instr.sureAddr] using h1

/-- A function's results. -/
def aRes1 (P : Program) (s : AState) : ResultVar → Option AV
  | .tmp t => some ((lget s.tmps t).getD .undef)
  | .cell a t => aLoad P t ((lget s.tmps a).getD .undef) s.H
def aResL (P : Program) (s : AState) : List ResultVar → Option (List AV)
  | [] => some []
  | r :: rs => match aRes1 P s r, aResL P s rs with
    | some v, some vs => some (v :: vs)
    | _, _ => none
def aRes (P : Program) (fn : Func) (s : AState) : Option AV := match aResL P s fn.results.toList with
  | some [v] => some v
  | some vs => some (.tup vs)
  | none => none

/-- The temporaries that a function begins with. -/
def initT : Nat → List AV → List (Nat × AV)
  | _, [] => []
  | i, v :: vs => (i, v) :: initT (i + 1) vs

theorem lget_initT (t : Nat) (v : AV) : ∀ (vs : List AV) (i : Nat), lget (initT i vs) t = some v → i ≤ t ∧ vs[t - i]? = some v
  | [], i, h => by simp [initT, lget] at h
  | x :: vs, i, h => by
    simp only [initT, lget_cons] at h
    split at h
    · rename_i e; subst e; simp at h; exact ⟨Nat.le_refl _, by simp [h]⟩
    · rename_i e
      obtain ⟨h1, h2⟩ := lget_initT t v vs (i + 1) h
      refine ⟨by omega, ?_⟩
      rw [show t - i = (t - (i + 1)) + 1 by omega]
      simpa using h2

def retQ (P : Program) (fn : Func) (Q : AV → List AObj → Prop) : Exit → AState → Prop
  | .normal, s | .ret, s => ∃ r, aRes P fn s = some r ∧ r.noLoc = true ∧ Q r s.H.heap
  | _, _ => False

def resS (tmps : Array Value) : ResultVar → Sem Value
  | .tmp t => pure (tmps.getD t undef)
  | .cell a t => do loadVar t (← asAddr (tmps.getD a undef))

theorem results_eq (fn : Func) (tmps : Array Value) : results fn tmps = (do let vs ← fn.results.mapM (resS tmps); pure (if h : vs.size = 1 then vs[0] else .tuple vs)) := by
  unfold results
  congr 1

theorem aResL_sound {P : Program} {B : Base} {L : Lay} {S : Nat → Prop} {w : World} {s : AState} {a : Act} (hr : HR B L S s.H w) (ht : TR L S w (lget s.tmps) a) :
    ∀ (rs : List ResultVar) (vs : List AV), aResL P s rs = some vs → ∃ us, (rs.mapM (resS a.tmps)).run P w = .ok us w ∧ VRs L S w vs us
  | [], vs, h => by simp [aResL] at h; subst h; exact ⟨[], by simp, rfl, by simp⟩
  | r :: rs, vs, h => by
    simp only [aResL] at h
    split at h
    · rename_i v vs' h1 h2
      cases h
      obtain ⟨us, h3, h4⟩ := aResL_sound hr ht rs vs' h2
      have one : ∃ u, (resS a.tmps r).run P w = .ok u w ∧ VR L S w v u := by
        cases r with
        | tmp t =>
          simp only [aRes1, Option.some.injEq] at h1
          refine ⟨_, rfl, ?_⟩
          have := VR.aval ht (.tmp t)
          simp only [avalF, Act.eval] at this
          rw [← h1]
          exact this
        | cell x t =>
          simp only [aRes1] at h1
          have hv := VR.aval ht (.tmp x)
          simp only [avalF, Act.eval] at hv
          obtain ⟨ad, y, h5, h6, h7⟩ := aLoad_var (P := P) hr h1 hv
          refine ⟨y, ?_, h7⟩
          show (do loadVar t (← asAddr (a.tmps.getD x undef)) : Sem Value).run P w = _
          rw [h5]
          simp [asAddr, h6]
      obtain ⟨u, h5, h6⟩ := one
      refine ⟨u :: us, ?_, by simp [h4.1], fun j y z h7 h8 => ?_⟩
      · rw [List.mapM_cons]
        simp only [Sem.run_bind, h5, Result.andThen_ok, h3]
        rfl
      · cases j with
        | zero => simp at h7 h8; subst h7; subst h8; exact h6
        | succ j => exact h4.2 j y z (by simpa using h7) (by simpa using h8)
    · cases h

theorem aRes_sound {P : Program} {B : Base} {L : Lay} {S : Nat → Prop} {w : World} {s : AState} {a : Act} {fn : Func} {r : AV} (hr : HR B L S s.H w) (ht : TR L S w (lget s.tmps) a) (h : aRes P fn s = some r) :
    ∃ u, (results fn a.tmps).run P w = .ok u w ∧ VR L S w r u := by
  unfold aRes at h
  have key : ∀ vs, aResL P s fn.results.toList = some vs → ∃ us : List Value, VRs L S w vs us ∧ (results fn a.tmps).run P w = .ok (if h : us.length = 1 then us[0] else .tuple us.toArray) w := fun vs hvs => by
    obtain ⟨us, h1, h2⟩ := aResL_sound (P := P) hr ht _ _ hvs
    refine ⟨us, h2, ?_⟩
    rw [results_eq, Array.mapM_eq_mapM_toList]
    simp [h1]
  split at h
  · rename_i v hv
    cases h
    obtain ⟨us, h1, h2⟩ := key _ hv
    have hl : us.length = 1 := by simpa using h1.1
    refine ⟨_, h2, ?_⟩
    rw [dif_pos hl]
    exact h1.2 0 _ _ (by simp) (by simp [hl])
  · rename_i vs hne hv
    cases h
    obtain ⟨us, h1, h2⟩ := key _ hv
    refine ⟨_, h2, ?_⟩
    have hl : ¬ us.length = 1 := by
      rw [h1.1]
      intro e
      match vs, e with
      | [v], _ => exact hne v rfl
    rw [dif_neg hl]
    exact .tup us h1.1 h1.2
  · cases h

def isHp : Key → Bool
  | .loc _ => false
  | .hp _ => true

theorem res_isHp (L : Lay) : L.res isHp = L.hpOnly := by funext k; cases k <;> simp [Lay.res, isHp, Lay.hpOnly]

theorem HR.hp {B : Base} {L : Lay} {S : Nat → Prop} {H : AH} {w : World} (h : HR B L S H w) : HR B L.hpOnly S ⟨[], H.heap⟩ w := by
  rw [← res_isHp]
  refine h.res (fun k => ?_) (fun k o ho => ?_) (fun i r _ => rfl)
  · cases k <;> simp [AH.get, isHp, lget]
  · cases k with
    | loc κ => simp [AH.get, lget] at ho
    | hp i =>
      obtain ⟨r, hL, hor⟩ := h.obj (.hp i) o ho
      exact hor.inK fun k r hk => by
        cases k with
        | loc κ => simp [Lay.at, Lay.hpOnly] at hk
        | hp i => rfl

theorem FnQ.intro {P : Program} {f : FuncId} {fn : Func} {c : Code} {args : List AV} {h : List AObj} {Q : AV → List AObj → Prop} (hf : P.funcs[f]? = some fn) (hb : fn.body = some c) (hn : args.length ≤ fn.ntmps)
    (hok : ∀ B, Ok P B fn.ntmps c ⟨initT 0 args, ⟨[], h⟩⟩ (retQ P fn Q)) : FnQ P f args h Q := by
  intro L S w us hloc hr hv
  refine calls_of_wp hf hb ?_
  have hl : us.length = args.length := hv.1
  have hrel : RelN (Base.of L S w) fn.ntmps ⟨initT 0 args, ⟨[], h⟩⟩ { tmps := us.toArray ++ Array.replicate (fn.ntmps - us.toArray.size) Go.undef, defers := [] } w := by
    refine ⟨by simp; omega, rfl, L, S, hr, fun t v ht => ?_⟩
    obtain ⟨_, h2⟩ := lget_initT t v args 0 ht
    simp only [Nat.sub_zero] at h2
    have hlt : t < us.length := by rw [hl]; exact (List.getElem?_eq_some_iff.1 h2).1
    refine ⟨by simp; omega, ?_⟩
    have : (us.toArray ++ Array.replicate (fn.ntmps - us.toArray.size) Go.undef).getD t Go.undef = us[t] := by
      rw [Array.getD_eq_getD_getElem?, Array.getElem?_append_left (by simpa using hlt)]
      simp [hlt]
    rw [this]
    exact hv.2 t v us[t] h2 (List.getElem?_eq_getElem hlt)
  refine wp_mono (hok _ _ _ hrel) ?_
  intro e a' w' ⟨s', hq, hn', hdef, L', S', hr', ht'⟩
  have fin : (∃ r, aRes P fn s' = some r ∧ r.noLoc = true ∧ Q r s'.H.heap) → a'.defers = [] ∧ ∃ v, (results fn a'.tmps).run P w' = .ok v w' ∧
      ∃ u r h' L' S', Ending.returned v = .returned u ∧ Q r h' ∧ VR L' S' w' r u ∧ HR (Base.of L S w) L' S' ⟨[], h'⟩ w' ∧ ∀ κ, L' (.loc κ) = none := fun ⟨r, h1, h2, h3⟩ => by
    obtain ⟨u, h4, h5⟩ := aRes_sound hr' ht' h1
    exact ⟨hdef, u, h4, u, r, _, L'.hpOnly, S', rfl, h3, h5.to_hp h2, hr'.hp, fun κ => rfl⟩
  cases e with
  | normal => exact fin hq
  | ret => exact fin hq
  | _ => exact hq.elim
end Go.AL
namespace Go.AL
open Go

/-- What is known of calls: a function, its arguments and the heap tell the answer and the heap behind. -/
abbrev Know := FuncId → List AV → List AObj → Option (AV × List AObj)
def Know.ok (P : Program) (call : Know) : Prop := ∀ f args h r h', call f args h = some (r, h') → FnQ P f args h (fun r1 h1 => r1 = r ∧ h1 = h')

section
variable (P : Program) (call : Know) (ann : Ann)

def xOp (o : Oper) (ρ : Operand → AV) (H : AH) : Option (AV × AH) :=
  match o.op with
  | .call { callee := .value f, args, .. } => match ρ f with
    | .fn fid first cap => if enters P fid && noLocs (first ++ args.toList.map ρ ++ cap) then
        match call fid (first ++ args.toList.map ρ ++ cap) H.heap with
        | some (r, h') => some (r, { H with heap := h' })
        | none => none
      else none
    | _ => none
  | _ => aEff P ann o ρ H

def xOps (ops : Array Oper) : List Oper → AState → Option AState
  | [], s => some s
  | o :: rest, s => match o.guard with
    | none => match xOp P call ann o (aval s.tmps) s.H with
      | some (v, H') => xOps ops rest ⟨tput s.tmps o.dst v, H'⟩
      | none => none
    | some (j, want) => match guardB ops s.tmps j with
      | some b => if b = want then (match xOp P call ann o (aval s.tmps) s.H with
          | some (v, H') => xOps ops rest ⟨tput s.tmps o.dst v, H'⟩
          | none => none)
        else xOps ops rest ⟨tput s.tmps o.dst .undef, s.H⟩
      | none => none

/-- Operations that may turn memory. -/
def mayTurn (o : Oper) : Bool :=
  match o.op with
  | .alloc _ | .box _ _ | .buildSlice _ _ _ | .store _ _ _ | .makeMap _ _ | .makeSlice _ _ _ | .mapUpdate _ _ _ _ => true
  | .call { callee := .builtin .len, .. } | .call { callee := .builtin .min, .. } | .call { callee := .builtin .max, .. } => false
  | .call _ => true
  | _ => false
def autoN (ops : Array Oper) (k : Nat) : Bool := match ops[k]? with | some o => mayTurn o | none => true

def xdOps (ops : Array Oper) : List Oper → AState → Option AState
  | [], s => some s
  | o :: rest, s => match wantF ops o (lget s.tmps) with
    | some true => match xOp P call ann o (aval s.tmps) s.H with
      | some (v, H') => xdOps ops rest ⟨tput s.tmps o.dst v, H'⟩
      | none => none
    | some false => xdOps ops rest ⟨tput s.tmps o.dst .undef, s.H⟩
    | none => none

/-- A loop's rounds. -/
def xLoop (body : AState → Option (Exit × AState)) : Nat → AState → Option (Exit × AState)
  | 0, _ => none
  | k + 1, s => match body s with
    | some (.normal, s') => xLoop body k s'
    | r => r

def xCode (fuel : Nat) : Code → AState → Option (Exit × AState)
  | .skip, s => some (.normal, s)
  | .label _, s => some (.normal, s)
  | .exit id, s => some (.exit id, s)
  | .ret, s => some (.ret, s)
  | .region _ ops draw, s => if draw then
      (if lexN ops (autoN ops) then (match xdOps P call ann ops ops.toList s with | some s' => some (.normal, s') | none => none) else none)
    else (match xOps P call ann ops ops.toList s with | some s' => some (.normal, s') | none => none)
  | .seq a b, s => match xCode fuel a s with
    | some (.normal, s') => xCode fuel b s'
    | r => r
  | .cond c a b, s => match aval s.tmps c with
    | .bool t => if t then xCode fuel a s else xCode fuel b s
    | _ => none
  | .block id c, s => match xCode fuel c s with
    | some (.exit id', s') => if id' = id then some (.normal, s') else some (.exit id', s')
    | r => r
  | .loop c, s => xLoop (xCode fuel c) fuel s
  | _, _ => none
end

/-- All regions write where the frame has room. -/
def dstsOK (n : Nat) : Code → Bool
  | .region _ ops _ => dstsIn n ops.toList
  | .seq a b => dstsOK n a && dstsOK n b
  | .cond _ a b => dstsOK n a && dstsOK n b
  | .block _ c => dstsOK n c
  | .loop c => dstsOK n c
  | _ => true

section
variable {P : Program} {call : Know} {ann : Ann}

theorem xOp_sound (hc : call.ok P) {o : Oper} {ρ : Operand → AV} {H H' : AH} {v : AV} {K : AV → AH → Prop} (h : xOp P call ann o ρ H = some (v, H')) (hK : K v H') : aOp P ann o ρ H K := by
  unfold xOp at h
  unfold aOp
  obtain ⟨dst, op, type, pos, after, guard⟩ := o
  split at h
  · rename_i f args at' hop
    simp only at hop
    subst hop
    simp only
    split at h
    · rename_i fid first cap hf
      split at h
      · rename_i hent
        simp only [Bool.and_eq_true] at hent
        split at h
        · rename_i r h' hcall
          cases h
          try simp only [hf]
          exact ⟨hent.1, hent.2, (hc _ _ _ _ _ hcall).mono fun r1 h1 ⟨e1, e2⟩ => by rw [e1, e2]; exact hK⟩
        · cases h
      · cases h
    · cases h
  · rename_i hno
    split
    · rename_i f args at' hop; exact (hno _ _ _ hop).elim
    · rw [h]; exact hK

theorem xOps_sound (hc : call.ok P) {ops : Array Oper} {Q : AState → Prop} : ∀ (l : List Oper) (s s' : AState), xOps P call ann ops l s = some s' → Q s' → aOps P ann ops Q l s
  | [], s, s', h, hq => by simp only [xOps, Option.some.injEq] at h; subst h; exact hq
  | o :: l, s, s', h, hq => by
    have step : (match xOp P call ann o (aval s.tmps) s.H with | some (v, H') => xOps P call ann ops l ⟨tput s.tmps o.dst v, H'⟩ | none => none) = some s' →
        aOp P ann o (aval s.tmps) s.H fun v H' => aOps P ann ops Q l ⟨tput s.tmps o.dst v, H'⟩ := fun h => by
      split at h
      · rename_i v H' hx
        exact xOp_sound hc hx (xOps_sound hc l _ _ h hq)
      · cases h
    simp only [xOps] at h
    simp only [aOps]
    split at h
    · rename_i hg
      try simp only [hg]
      exact step h
    · rename_i j want hg
      try simp only [hg]
      split at h
      · rename_i b hb
        try simp only [hb]
        split at h
        · rename_i hbw; rw [if_pos hbw]; exact step h
        · rename_i hbw; rw [if_neg hbw]; exact xOps_sound hc l _ _ h hq
      · cases h

theorem aEff_quiet (hla : ann.la = []) {o : Oper} {ρ : Operand → AV} {H H' : AH} {v : AV} (hm : mayTurn o = false) (h : aEff P ann o ρ H = some (v, H')) : H' = H := by
  unfold aEff at h
  unfold mayTurn at hm
  obtain ⟨dst, op, type, pos, after, guard⟩ := o
  simp only at h hm
  have mp : ∀ {x : Option AV}, x.map (·, H) = some (v, H') → H' = H := fun h => by
    simp only [Option.map_eq_some_iff, Prod.mk.injEq] at h; obtain ⟨_, _, _, h⟩ := h; exact h.symm
  split at h <;> first
    | (cases hm; done)
    | (cases h; done)
    | (cases h; rfl)
    | exact mp h
    | (split at h <;> first | exact mp h | (cases h; done) | (cases h; rfl) | (simp [hla] at h; exact h.2.symm))
end
end Go.AL
namespace Go.AL
open Go

section
variable {P : Program} {call : Know} {ann : Ann}

theorem aQuiet_of {o : Oper} {ρ : Operand → AV} {H H' : AH} {v : AV} (hla : ann.la = []) (hm : mayTurn o = false) (h : xOp P call ann o ρ H = some (v, H')) : H' = H ∧ aQuiet P ann o ρ H v := by
  unfold xOp at h
  unfold aQuiet
  split at h
  · rename_i f args at' hop
    unfold mayTurn at hm
    rw [hop] at hm
    cases hm
  · rename_i hno
    have e := aEff_quiet hla hm h
    refine ⟨e, ?_⟩
    split
    · rename_i f args at' hop; exact (hno _ _ _ hop).elim
    · rw [h, e]

theorem xdOps_sound (hc : call.ok P) (hla : ann.la = []) {ops : Array Oper} {Q : AState → Prop} : ∀ (l : List Oper) (k : Nat) (s s' : AState), (∀ j, l[j]? = ops[k + j]?) → xdOps P call ann ops l s = some s' → Q s' → dOps P ann ops (autoN ops) Q k l s
  | [], k, s, s', _, h, hq => by simp only [xdOps, Option.some.injEq] at h; subst h; exact hq
  | o :: l, k, s, s', hl, h, hq => by
    have h0 : ops[k]? = some o := by simpa using (hl 0).symm
    have hl' : ∀ j, l[j]? = ops[k + 1 + j]? := fun j => by have := hl (j + 1); simpa [Nat.add_assoc, Nat.add_comm 1 j] using this
    simp only [xdOps] at h
    simp only [dOps]
    split at h
    · rename_i hw
      try simp only [hw]
      split at h
      · rename_i v H' hx
        have rest := xdOps_sound hc hla l (k + 1) _ _ hl' h hq
        by_cases hm : mayTurn o = true
        · rw [if_pos (by simp [autoN, h0, hm])]
          exact xOp_sound hc hx rest
        · have hm' : mayTurn o = false := by simpa using hm
          rw [if_neg (by simp [autoN, h0, hm'])]
          obtain ⟨e, hq'⟩ := aQuiet_of hla hm' hx
          subst e
          exact ⟨v, hq', rest⟩
      · cases h
    · rename_i hw
      try simp only [hw]
      exact xdOps_sound hc hla l (k + 1) _ _ hl' h hq
    · cases h

theorem xCode_sound (hm : P.follows .mixedOrders = true) (hc : call.ok P) (hla : ann.la = []) {B : Base} {n fuel : Nat} : ∀ (c : Code) (s : AState) (e : Exit) (s' : AState), dstsOK n c = true → xCode P call ann fuel c s = some (e, s') →
    Ok P B n c s (fun e1 s1 => e1 = e ∧ s1 = s') := by
  intro c
  induction c with
  | skip => intro s e s' _ h; simp only [xCode, Option.some.injEq, Prod.mk.injEq] at h; exact .skip ⟨h.1, h.2⟩
  | label l => intro s e s' _ h; simp only [xCode, Option.some.injEq, Prod.mk.injEq] at h; exact .label ⟨h.1, h.2⟩
  | exit id => intro s e s' _ h; simp only [xCode, Option.some.injEq, Prod.mk.injEq] at h; exact .exit ⟨h.1, h.2⟩
  | ret => intro s e s' _ h; simp only [xCode, Option.some.injEq, Prod.mk.injEq] at h; exact .ret ⟨h.1, h.2⟩
  | region id ops draw =>
    intro s e s' hd h
    simp only [xCode] at h
    simp only [dstsOK] at hd
    cases draw with
    | true =>
      simp only [if_true] at h
      split at h
      · rename_i hlex
        split at h
        · rename_i s1 hx
          simp only [Option.some.injEq, Prod.mk.injEq] at h
          obtain ⟨rfl, rfl⟩ := h
          exact .draw ann _ hm hd hlex (xdOps_sound hc hla _ 0 _ _ (by simp) hx ⟨rfl, rfl⟩)
        · cases h
      · cases h
    | false =>
      simp only [Bool.false_eq_true, if_false] at h
      split at h
      · rename_i s1 hx
        simp only [Option.some.injEq, Prod.mk.injEq] at h
        obtain ⟨rfl, rfl⟩ := h
        exact .region ann hd (xOps_sound hc _ _ _ hx ⟨rfl, rfl⟩)
      · cases h
  | seq a b iha ihb =>
    intro s e s' hd h
    simp only [dstsOK, Bool.and_eq_true] at hd
    simp only [xCode] at h
    refine .seq ?_
    split at h
    · rename_i s1 ha
      refine (iha s _ _ hd.1 ha).mono ?_
      rintro e1 s2 ⟨rfl, rfl⟩
      exact ihb _ _ _ hd.2 h
    · rename_i hno
      refine (iha s e s' hd.1 h).mono ?_
      rintro e1 s2 ⟨rfl, rfl⟩
      cases e1 <;> first | exact ⟨rfl, rfl⟩ | exact (hno _ h).elim
  | cond c a b iha ihb =>
    intro s e s' hd h
    simp only [dstsOK, Bool.and_eq_true] at hd
    simp only [xCode] at h
    split at h
    · rename_i t ht
      refine .cond ht ?_
      cases t with
      | true => simp only [if_true] at h ⊢; exact iha _ _ _ hd.1 h
      | false => simp only [Bool.false_eq_true, if_false] at h ⊢; exact ihb _ _ _ hd.2 h
    · cases h
  | block id c ih =>
    intro s e s' hd h
    simp only [dstsOK] at hd
    simp only [xCode] at h
    refine .block ?_
    split at h
    · rename_i id' s1 hx
      refine (ih s _ _ hd hx).mono ?_
      rintro e1 s2 ⟨rfl, rfl⟩
      simp only [blockQ]
      split at h
      · rename_i hid
        simp only [Option.some.injEq, Prod.mk.injEq] at h
        rw [if_pos hid]
        exact ⟨h.1, h.2⟩
      · rename_i hid
        simp only [Option.some.injEq, Prod.mk.injEq] at h
        rw [if_neg hid]
        exact ⟨h.1, h.2⟩
    · rename_i hno
      refine (ih s e s' hd h).mono ?_
      rintro e1 s2 ⟨rfl, rfl⟩
      cases e1 <;> first | exact ⟨rfl, rfl⟩ | exact (hno _ _ h).elim
  | loop c ih =>
    intro s e s' hd h
    simp only [dstsOK] at hd
    simp only [xCode] at h
    refine .loop (fun k s => xLoop (xCode P call ann fuel c) k s = some (e, s')) fuel h ?_
    intro k s hI
    cases k with
    | zero => simp [xLoop] at hI
    | succ k =>
      simp only [xLoop] at hI
      split at hI
      · rename_i s1 hx
        refine (ih s _ _ hd hx).mono ?_
        rintro e1 s2 ⟨rfl, rfl⟩
        exact ⟨k, Nat.lt_succ_self k, hI⟩
      · rename_i hno
        refine (ih s e s' hd hI).mono ?_
        rintro e1 s2 ⟨rfl, rfl⟩
        cases e1 <;> first | exact ⟨rfl, rfl⟩ | exact (hno _ hI).elim
  | _ => intro s e s' _ h; simp [xCode] at h
end

/-- All objects on the heap. -/
def annAll : Ann := { all := true }

abbrev Tab := FuncId → Option (List AV → List AObj → Option (AV × List AObj))
def Tab.ok (P : Program) (tab : Tab) : Prop := ∀ f g, tab f = some g → ∀ args h r h', g args h = some (r, h') → FnQ P f args h (fun r1 h1 => r1 = r ∧ h1 = h')

/-- A function's body, by what is known of calls. -/
def xBody (P : Program) (call : Know) (fuel : Nat) (fn : Func) (args : List AV) (h : List AObj) : Option (AV × List AObj) :=
  match fn.body with
  | none => none
  | some c => if args.length ≤ fn.ntmps then
      match xCode P call annAll fuel c ⟨initT 0 args, ⟨[], h⟩⟩ with
      | some (.normal, s) | some (.ret, s) => match aRes P fn s with
        | some r => if r.noLoc then some (r, s.H.heap) else none
        | none => none
      | _ => none
    else none

def xCall (P : Program) (tab : Tab) (fuel : Nat) : Nat → Know
  | 0, f, args, h => match tab f with
    | some g => g args h
    | none => none
  | d + 1, f, args, h => match tab f with
    | some g => g args h
    | none => match P.funcs[f]? with
      | none => none
      | some fn => xBody P (xCall P tab fuel d) fuel fn args h

def allDsts (P : Program) : Bool := P.funcs.all fun fn => match fn.body with
  | none => true
  | some c => dstsOK fn.ntmps c

theorem xBody_sound {P : Program} {call : Know} {fuel : Nat} (hm : P.follows .mixedOrders = true) (hall : allDsts P = true) (hc : call.ok P) {f : FuncId} {fn : Func} (hf : P.funcs[f]? = some fn) {args : List AV} {h : List AObj} {r : AV} {h' : List AObj}
    (hx : xBody P call fuel fn args h = some (r, h')) : FnQ P f args h (fun r1 h1 => r1 = r ∧ h1 = h') := by
  unfold xBody at hx
  split at hx
  · cases hx
  · rename_i c hb
    have hd : dstsOK fn.ntmps c = true := by
      have := Array.all_eq_true_iff_forall_mem.1 hall fn (Array.mem_of_getElem? hf)
      simpa [hb] using this
    split at hx
    · rename_i hn
      refine FnQ.intro hf hb hn fun B => ?_
      split at hx
      · rename_i s hs
        split at hx
        · rename_i r' hr
          split at hx
          · rename_i hno
            cases hx
            refine (xCode_sound hm hc rfl c _ _ _ hd hs).mono ?_
            rintro e1 s1 ⟨rfl, rfl⟩
            exact ⟨r, hr, hno, rfl, rfl⟩
          · cases hx
        · cases hx
      · rename_i s hs
        split at hx
        · rename_i r' hr
          split at hx
          · rename_i hno
            cases hx
            refine (xCode_sound hm hc rfl c _ _ _ hd hs).mono ?_
            rintro e1 s1 ⟨rfl, rfl⟩
            exact ⟨r, hr, hno, rfl, rfl⟩
          · cases hx
        · cases hx
      · cases hx
    · cases hx

theorem xCall_sound {P : Program} {tab : Tab} {fuel : Nat} (hm : P.follows .mixedOrders = true) (hall : allDsts P = true) (ht : tab.ok P) : ∀ d, (xCall P tab fuel d).ok P
  | 0 => fun f args h r h' hx => by
    simp only [xCall] at hx
    split at hx
    · rename_i g hg; exact ht f g hg args h r h' hx
    · cases hx
  | d + 1 => fun f args h r h' hx => by
    simp only [xCall] at hx
    split at hx
    · rename_i g hg; exact ht f g hg args h r h' hx
    · split at hx
      · cases hx
      · rename_i fn hf
        exact xBody_sound hm hall (xCall_sound hm hall ht d) hf hx
end Go.AL
