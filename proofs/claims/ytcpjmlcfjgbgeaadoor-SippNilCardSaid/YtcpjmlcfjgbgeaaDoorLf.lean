/- The abstract logic over any program: the interpreter made quick, and arguments read. It asks nothing of the program. -/
import Derived.Test.YtcpjmlcfjgbgeaaDoorLe
import Derived.KernelRfl
import Derived.ChangeArms
import Derived.DataReads
import Derived.ChangeOld
import Derived.Below
import Derived.WideShapes
set_option linter.unusedVariables false
set_option linter.unusedSimpArgs false
namespace Go.AL
open Go

/-- A function, its arguments, its answer. -/
abbrev Memo := List (FuncId × List AV × AV)
def Memo.ok (P : Program) (m : Memo) : Prop := ∀ e ∈ m, Fn P e.1 e.2.1 e.2.2
def Memo.tabP (m : Memo) (base : FuncId → Option (List AV → Option AV)) : FuncId → Option (List AV → Option AV) := fun f =>
  bif m.any (fun e => Nat.beq e.1 f) then some fun args => (m.find? fun e => Nat.beq e.1 f && beqs e.2.1 args).map (·.2.2) else base f

theorem Memo.tabP_ok {P : Program} {m : Memo} {base : FuncId → Option (List AV → Option AV)} (hm : m.ok P) (hb : ∀ f g, base f = some g → ∀ args r, g args = some r → Fn P f args r) :
    ∀ f g, m.tabP base f = some g → ∀ args r, g args = some r → Fn P f args r := by
  intro f g hg args r hr
  unfold Memo.tabP at hg
  cases hany : m.any (fun e => Nat.beq e.1 f) with
  | true =>
    simp only [hany, cond_true, Option.some.injEq] at hg
    subst hg
    simp only [Option.map_eq_some_iff] at hr
    obtain ⟨e, he, rfl⟩ := hr
    have h1 := List.find?_some he
    have h2 := List.mem_of_find?_eq_some he
    simp only [Bool.and_eq_true] at h1
    have e1 : e.1 = f := Nat.eq_of_beq_eq_true h1.1
    have e2 := beqs_eq h1.2
    rw [← e1, ← e2]
    exact hm e h2
  | false =>
    simp only [hany, cond_false] at hg
    exact hb f g hg args r hr

/-- Is this the answer? -/
def gives (x : Option (AV × List AObj)) (r : AV) : Bool := match x with
  | some (r', _) => r'.beq r
  | none => false

theorem Fn.of_y {P : Program} {E : Env} {d : Nat} {f : FuncId} {args : List AV} {r : AV} (hm : P.follows .mixedOrders = true) (hall : allDsts P = true) (hE : E.ok P) (hpf : E.pf f = true) (h : gives (yCall P E d f args []) r = true) : Fn P f args r := by
  unfold gives at h
  split at h
  · rename_i r' h' hx
    rw [← AV.beq_eq h]
    exact ((yCall_sound hm hall hE d).2 f args [] r' h' hpf hx).2
  · cases h

theorem FnQ.of_y {P : Program} {E : Env} {d : Nat} {f : FuncId} {args : List AV} {h : List AObj} {r : AV} (hm : P.follows .mixedOrders = true) (hall : allDsts P = true) (hE : E.ok P) (hx : gives (yCall P E d f args h) r = true) : FnQ P f args h (fun r1 _ => r1 = r) := by
  unfold gives at hx
  split at hx
  · rename_i r' h' hy
    rw [← AV.beq_eq hx]
    exact ((yCall_sound hm hall hE d).1 f args h r' h' hy).mono fun _ _ h => h.1
  · cases hx
end Go.AL
namespace Go.AL
open Go

/-- A tree that is read by a number's digits. -/
inductive Tr (α : Type) where
  | lf
  | nd (v : Option α) (l r : Tr α)

def Tr.vOf {α : Type} : Tr α → Option α
  | .lf => none
  | .nd v _ _ => v
def Tr.lOf {α : Type} : Tr α → Tr α
  | .lf => .lf
  | .nd _ l _ => l
def Tr.rOf {α : Type} : Tr α → Tr α
  | .lf => .lf
  | .nd _ _ r => r

noncomputable def Tr.get {α : Type} (t : Tr α) : Nat → Option α :=
  Tr.rec (motive := fun _ => Nat → Option α) (fun _ => none) (fun v _ _ gl gr n => bif Nat.beq n 0 then v else bif Nat.beq (Nat.mod n 2) 1 then gl (Nat.div n 2) else gr (Nat.pred (Nat.div n 2))) t

theorem Tr.get_lf {α : Type} (n : Nat) : (Tr.lf : Tr α).get n = none := rfl
theorem Tr.get_nd {α : Type} (v : Option α) (l r : Tr α) (n : Nat) : (Tr.nd v l r).get n = if n = 0 then v else if n % 2 = 1 then l.get (n / 2) else r.get (n / 2 - 1) := by
  show (bif Nat.beq n 0 then v else bif Nat.beq (Nat.mod n 2) 1 then l.get (Nat.div n 2) else r.get (Nat.pred (Nat.div n 2))) = _
  have e : ∀ a b, Nat.beq a b = decide (a = b) := fun a b => by
    cases h : Nat.beq a b with
    | true => simp [Nat.eq_of_beq_eq_true h]
    | false => simp [Nat.ne_of_beq_eq_false h]
  rw [e, e]
  by_cases h : n = 0
  · simp [h]
  · have h2 : Nat.mod n 2 = n % 2 := rfl
    have h3 : Nat.div n 2 = n / 2 := rfl
    rw [h2, h3]
    by_cases h4 : n % 2 = 1
    · simp [h, h4]
    · simp [h, h4]

theorem Tr.get_eq {α : Type} (t : Tr α) (n : Nat) : t.get n = if n = 0 then t.vOf else if n % 2 = 1 then t.lOf.get (n / 2) else t.rOf.get (n / 2 - 1) := by
  cases t with
  | lf => simp [Tr.get_lf, Tr.vOf, Tr.lOf, Tr.rOf]
  | nd v l r => rw [Tr.get_nd]; rfl

noncomputable def Tr.setF {α : Type} (f : Nat) : Tr α → Nat → α → Tr α :=
  Nat.rec (motive := fun _ => Tr α → Nat → α → Tr α) (fun t _ v => .nd (some v) t.lOf t.rOf)
    (fun _ ih t n v => bif Nat.beq n 0 then .nd (some v) t.lOf t.rOf else bif Nat.beq (Nat.mod n 2) 1 then .nd t.vOf (ih t.lOf (Nat.div n 2) v) t.rOf else .nd t.vOf t.lOf (ih t.rOf (Nat.pred (Nat.div n 2)) v)) f

theorem Tr.get_setF {α : Type} (v : α) : ∀ (f : Nat) (t : Tr α) (n m : Nat), n ≤ f → (Tr.setF f t n v).get m = if m = n then some v else t.get m
  | 0, t, n, m, h => by
    have hn : n = 0 := by omega
    subst hn
    show (Tr.nd (some v) t.lOf t.rOf).get m = _
    rw [Tr.get_nd, t.get_eq m]
    by_cases h : m = 0 <;> simp [h]
  | f + 1, t, n, m, h => by
    show (bif Nat.beq n 0 then Tr.nd (some v) t.lOf t.rOf else bif Nat.beq (Nat.mod n 2) 1 then .nd t.vOf (Tr.setF f t.lOf (Nat.div n 2) v) t.rOf else .nd t.vOf t.lOf (Tr.setF f t.rOf (Nat.pred (Nat.div n 2)) v) : Tr α).get m = _
    have e : ∀ a b, Nat.beq a b = decide (a = b) := fun a b => by
      cases h : Nat.beq a b with
      | true => simp [Nat.eq_of_beq_eq_true h]
      | false => simp [Nat.ne_of_beq_eq_false h]
    have h2 : Nat.mod n 2 = n % 2 := rfl
    have h3 : Nat.div n 2 = n / 2 := rfl
    rw [e, e, h2, h3]
    by_cases hn : n = 0
    · subst hn
      simp only [decide_true, cond_true]
      rw [Tr.get_nd, t.get_eq m]
      by_cases h : m = 0 <;> simp [h]
    · simp only [hn, decide_false, cond_false]
      by_cases ho : n % 2 = 1
      · simp only [ho, decide_true, cond_true]
        rw [Tr.get_nd, t.get_eq m, Tr.get_setF v f t.lOf (n / 2) (m / 2) (by omega)]
        by_cases h0 : m = 0
        · have : m ≠ n := by omega
          simp [h0, this]; intro h'; omega
        · by_cases h1 : m % 2 = 1
          · simp only [h0, h1, if_false, if_true]
            by_cases h5 : m = n
            · simp [h5]
            · have : m / 2 ≠ n / 2 := by omega
              simp [h5, this]
          · have : m ≠ n := fun h => by subst h; exact h1 ho
            simp [h0, h1, this]
      · simp only [ho, decide_false, cond_false]
        show (Tr.nd t.vOf t.lOf (Tr.setF f t.rOf (n / 2 - 1) v)).get m = _
        rw [Tr.get_nd, t.get_eq m, Tr.get_setF v f t.rOf (n / 2 - 1) (m / 2 - 1) (by omega)]
        by_cases h0 : m = 0
        · have : m ≠ n := by omega
          simp [h0, this]; intro h'; omega
        · by_cases h1 : m % 2 = 1
          · have : m ≠ n := fun h => by subst h; exact ho h1
            simp [h0, h1, this]
          · simp only [h0, h1, if_false]
            by_cases h5 : m = n
            · simp [h5]
            · have : m / 2 - 1 ≠ n / 2 - 1 := by omega
              simp [h5, this]

noncomputable def Tr.put (t : Tr AV) (d : Option Tmp) (v : AV) : Tr AV := match d with
  | some d => t.setF d d v
  | none => t

theorem Tr.get_put (t : Tr AV) (d : Option Tmp) (v : AV) : (t.put d v).get = updF t.get d v := by
  funext m
  cases d with
  | none => simp [Tr.put, updF]
  | some d => simp only [Tr.put, Tr.get_setF v d t d m (Nat.le_refl _), updF, Option.some.injEq]; by_cases h : m = d <;> simp [h, eq_comm]

structure ZS where
  t : Tr AV
  H : AH

def Sim (s : AState) (z : ZS) : Prop := lget s.tmps = z.t.get ∧ s.H = z.H

structure ZRec where
  o : Oper
  z : ZS
  v : AV
  w : Bool

section
variable (P : Program) (call : Know) (pf : FuncId → Bool) (ann : Ann)

noncomputable def zOps (ops : Array Oper) : List Oper → ZS → Option ZS
  | [], z => some z
  | o :: rest, z => match o.guard with
    | none => match xOp P call ann o (avalF z.t.get) z.H with
      | some (v, H') => zOps ops rest ⟨z.t.put o.dst v, H'⟩
      | none => none
    | some (j, want) => match guardF ops z.t.get j with
      | some b => if b = want then (match xOp P call ann o (avalF z.t.get) z.H with
          | some (v, H') => zOps ops rest ⟨z.t.put o.dst v, H'⟩
          | none => none)
        else zOps ops rest ⟨z.t.put o.dst .undef, z.H⟩
      | none => none

noncomputable def ztOps (ops : Array Oper) : List Oper → ZS → Option (List ZRec × ZS)
  | [], z => some ([], z)
  | o :: rest, z => match wantF ops o z.t.get with
    | some true => match xOp P call ann o (avalF z.t.get) z.H with
      | some (v, H') => match ztOps ops rest ⟨z.t.put o.dst v, H'⟩ with
        | some (tr, zf) => some (⟨o, z, v, true⟩ :: tr, zf)
        | none => none
      | none => none
    | some false => match ztOps ops rest ⟨z.t.put o.dst .undef, z.H⟩ with
      | some (tr, zf) => some (⟨o, z, .undef, false⟩ :: tr, zf)
      | none => none
    | none => none

def zAt (tr : List ZRec) (zf : ZS) (k : Nat) : AH := match tr[k]? with | some r => r.z.H | none => zf.H
noncomputable def zSame (r : ZRec) (H : AH) : Bool := match aEff P ann r.o (avalF r.z.t.get) H with
  | some (v, _) => v.beq r.v
  | none => false
noncomputable def zChk (ops : Array Oper) (tr : List ZRec) (zf : ZS) : Bool := (needs pf ops).all fun p => match tr[p.1]?, tr[p.2]? with
  | some rk, some rj => !rk.w || !rj.w || (if p.2 < p.1 then zSame P ann rk rj.z.H else zSame P ann rk (zAt tr zf (p.2 + 1)))
  | _, _ => false

noncomputable def zLoop (body : ZS → Option (Exit × ZS)) : Nat → ZS → Option (Exit × ZS)
  | 0, _ => none
  | k + 1, s => match body s with
    | some (.normal, s') => zLoop body k s'
    | r => r

noncomputable def zCode (fuel : Nat) : Code → ZS → Option (Exit × ZS)
  | .skip, s => some (.normal, s)
  | .label _, s => some (.normal, s)
  | .exit id, s => some (.exit id, s)
  | .ret, s => some (.ret, s)
  | .region _ ops draw, s => if draw then
      (if lexV ops (nOf pf ops) then (match ztOps P call ann ops ops.toList s with | some (tr, zf) => if zChk P pf ann ops tr zf then some (.normal, zf) else none | none => none) else none)
    else (match zOps P call ann ops ops.toList s with | some s' => some (.normal, s') | none => none)
  | .seq a b, s => match zCode fuel a s with
    | some (.normal, s') => zCode fuel b s'
    | r => r
  | .cond c a b, s => match avalF s.t.get c with
    | .bool t => if t then zCode fuel a s else zCode fuel b s
    | _ => none
  | .block id c, s => match zCode fuel c s with
    | some (.exit id', s') => if id' = id then some (.normal, s') else some (.exit id', s')
    | r => r
  | .loop c, s => zLoop (zCode fuel c) fuel s
  | _, _ => none
end

section
variable {P : Program} {call : Know} {pf : FuncId → Bool} {ann : Ann}

theorem Sim.put {s : AState} {z : ZS} (h : Sim s z) (d : Option Tmp) (v : AV) (H : AH) : Sim ⟨tput s.tmps d v, H⟩ ⟨z.t.put d v, H⟩ := ⟨by rw [lget_tput, Tr.get_put, h.1], rfl⟩
theorem Sim.aval {s : AState} {z : ZS} (h : Sim s z) : aval s.tmps = avalF z.t.get := by rw [aval_eq, h.1]

theorem zOps_sim {ops : Array Oper} : ∀ (l : List Oper) (s : AState) (z z' : ZS), Sim s z → zOps P call ann ops l z = some z' → ∃ s', xOps P call ann ops l s = some s' ∧ Sim s' z'
  | [], s, z, z', hs, h => by simp only [zOps, Option.some.injEq] at h; subst h; exact ⟨s, rfl, hs⟩
  | o :: l, s, z, z', hs, h => by
    have hg : ∀ j, guardB ops s.tmps j = guardF ops z.t.get j := fun j => by
      have e : guardB ops s.tmps j = guardF ops (lget s.tmps) j := rfl
      rw [e, hs.1]
    simp only [zOps] at h
    simp only [xOps, hs.aval, hs.2, hg]
    have step : (match xOp P call ann o (avalF z.t.get) z.H with | some (v, H') => zOps P call ann ops l ⟨z.t.put o.dst v, H'⟩ | none => none) = some z' →
        ∃ s', (match xOp P call ann o (avalF z.t.get) z.H with | some (v, H') => xOps P call ann ops l ⟨tput s.tmps o.dst v, H'⟩ | none => none) = some s' ∧ Sim s' z' := fun h => by
      split at h
      · rename_i v H' hx; exact zOps_sim l _ _ _ (hs.put _ _ _) h
      · cases h
    split at h
    · rename_i hgd; try simp only [hgd]
      exact step h
    · rename_i j want hgd
      try simp only [hgd]
      split at h
      · rename_i b hb
        try simp only [hb]
        split at h
        · rename_i hbw; simp only [hbw, if_true]; exact step h
        · rename_i hbw; simp only [hbw, if_false]; exact zOps_sim l _ _ _ (hs.put _ _ _) h
      · cases h

/-- Two walks' lists, one by one. -/
def SimL (tr : List Rec) (tz : List ZRec) : Prop := tr.length = tz.length ∧ ∀ (k : Nat) (r : Rec) (z : ZRec), tr[k]? = some r → tz[k]? = some z → r.o = z.o ∧ r.v = z.v ∧ r.w = z.w ∧ Sim r.s z.z

theorem SimL.cons {tr : List Rec} {tz : List ZRec} (h : SimL tr tz) {r : Rec} {z : ZRec} (h1 : r.o = z.o) (h2 : r.v = z.v) (h3 : r.w = z.w) (h4 : Sim r.s z.z) : SimL (r :: tr) (z :: tz) := by
  refine ⟨by simp [h.1], fun k r' z' hr hz => ?_⟩
  cases k with
  | zero => simp at hr hz; subst hr; subst hz; exact ⟨h1, h2, h3, h4⟩
  | succ k => exact h.2 k r' z' (by simpa using hr) (by simpa using hz)

theorem ztOps_sim {ops : Array Oper} : ∀ (l : List Oper) (s : AState) (z zf : ZS) (tz : List ZRec), Sim s z → ztOps P call ann ops l z = some (tz, zf) → ∃ tr sf, xtOps P call ann ops l s = some (tr, sf) ∧ Sim sf zf ∧ SimL tr tz
  | [], s, z, zf, tz, hs, h => by simp only [ztOps, Option.some.injEq, Prod.mk.injEq] at h; obtain ⟨rfl, rfl⟩ := h; exact ⟨[], s, rfl, hs, rfl, by simp⟩
  | o :: l, s, z, zf, tz, hs, h => by
    simp only [ztOps] at h
    simp only [xtOps, hs.aval, hs.2, hs.1]
    split at h
    · rename_i hw
      try simp only [hw]
      split at h
      · rename_i v H' hx
        try simp only [hx]
        split at h
        · rename_i tz' zf' hr
          simp only [Option.some.injEq, Prod.mk.injEq] at h
          obtain ⟨rfl, rfl⟩ := h
          obtain ⟨tr, sf, h1, h2, h3⟩ := ztOps_sim l _ _ _ _ (hs.put o.dst v H') hr
          try simp only [h1]
          exact ⟨_, _, rfl, h2, h3.cons rfl rfl rfl hs⟩
        · cases h
      · cases h
    · rename_i hw
      try simp only [hw]
      split at h
      · rename_i tz' zf' hr
        simp only [Option.some.injEq, Prod.mk.injEq] at h
        obtain ⟨rfl, rfl⟩ := h
        obtain ⟨tr, sf, h1, h2, h3⟩ := ztOps_sim l _ _ _ _ (hs.put o.dst .undef z.H) hr
        try simp only [h1]
        exact ⟨_, _, rfl, h2, h3.cons rfl rfl rfl hs⟩
      · cases h
    · cases h

theorem zChk_sim {ops : Array Oper} {tr : List Rec} {sf : AState} {tz : List ZRec} {zf : ZS} (h : SimL tr tz) (hf : Sim sf zf) (hc : zChk P pf ann ops tz zf = true) : xChk P pf ann ops tr sf = true := by
  unfold xChk
  unfold zChk at hc
  rw [List.all_eq_true] at hc ⊢
  intro p hp
  have := hc p hp
  have get : ∀ k, (∃ (r : Rec) (z : ZRec), tr[k]? = some r ∧ tz[k]? = some z ∧ r.o = z.o ∧ r.v = z.v ∧ r.w = z.w ∧ Sim r.s z.z) ∨ (tr[k]? = none ∧ tz[k]? = none) := fun k => by
    by_cases hk : k < tr.length
    · have hk' : k < tz.length := by rw [← h.1]; exact hk
      exact .inl ⟨tr[k], tz[k], List.getElem?_eq_getElem hk, List.getElem?_eq_getElem hk', h.2 k _ _ (List.getElem?_eq_getElem hk) (List.getElem?_eq_getElem hk')⟩
    · exact .inr ⟨List.getElem?_eq_none (by omega), List.getElem?_eq_none (by rw [← h.1]; omega)⟩
  have hat : ∀ k, (stAt tr sf k).H = zAt tz zf k := fun k => by
    unfold stAt zAt
    rcases get k with ⟨r, z, h1, h2, _, _, _, h3⟩ | ⟨h1, h2⟩
    · simp only [h1, h2]; exact h3.2
    · simp only [h1, h2]; exact hf.2
  rcases get p.1 with ⟨r1, z1, h1, h2, h3, h4, h5, h6⟩ | ⟨h1, h2⟩
  · rcases get p.2 with ⟨r2, z2, h7, h8, h9, h10, h11, h12⟩ | ⟨h7, h8⟩
    · have same : ∀ H, sameAt P ann r1 H = zSame P ann z1 H := fun H => by unfold sameAt zSame; rw [h3, h4, h6.aval]; rfl
      simp only [h1, h2, h7, h8] at this ⊢
      rw [h5, h11, same, same, hat, h12.2]
      exact this
    · simp only [h2, h8] at this; cases this
  · simp only [h2] at this; cases this

theorem zCode_sim {fuel : Nat} : ∀ (c : Code) (s : AState) (z : ZS) (e : Exit) (z' : ZS), Sim s z → zCode P call pf ann fuel c z = some (e, z') → ∃ s', yCode P call pf ann fuel c s = some (e, s') ∧ Sim s' z' := by
  intro c
  induction c with
  | skip => intro s z e z' hs h; simp only [zCode, Option.some.injEq, Prod.mk.injEq] at h; obtain ⟨rfl, rfl⟩ := h; exact ⟨s, rfl, hs⟩
  | label l => intro s z e z' hs h; simp only [zCode, Option.some.injEq, Prod.mk.injEq] at h; obtain ⟨rfl, rfl⟩ := h; exact ⟨s, rfl, hs⟩
  | exit id => intro s z e z' hs h; simp only [zCode, Option.some.injEq, Prod.mk.injEq] at h; obtain ⟨rfl, rfl⟩ := h; exact ⟨s, rfl, hs⟩
  | ret => intro s z e z' hs h; simp only [zCode, Option.some.injEq, Prod.mk.injEq] at h; obtain ⟨rfl, rfl⟩ := h; exact ⟨s, rfl, hs⟩
  | region id ops draw =>
    intro s z e z' hs h
    simp only [zCode] at h
    simp only [yCode]
    cases draw with
    | true =>
      simp only [if_true] at h ⊢
      split at h
      · rename_i hlex
        simp only [hlex, if_true]
        split at h
        · rename_i tz zf hx
          split at h
          · rename_i hchk
            simp only [Option.some.injEq, Prod.mk.injEq] at h
            obtain ⟨rfl, rfl⟩ := h
            obtain ⟨tr, sf, h1, h2, h3⟩ := ztOps_sim _ _ _ _ _ hs hx
            simp only [h1, zChk_sim h3 h2 hchk, if_true]
            exact ⟨sf, rfl, h2⟩
          · cases h
        · cases h
      · cases h
    | false =>
      simp only [Bool.false_eq_true, if_false] at h ⊢
      split at h
      · rename_i z1 hx
        simp only [Option.some.injEq, Prod.mk.injEq] at h
        obtain ⟨rfl, rfl⟩ := h
        obtain ⟨s', h1, h2⟩ := zOps_sim _ _ _ _ hs hx
        try simp only [h1]
        exact ⟨s', rfl, h2⟩
      · cases h
  | seq a b iha ihb =>
    intro s z e z' hs h
    simp only [zCode] at h
    simp only [yCode]
    split at h
    · rename_i z1 ha
      obtain ⟨s1, h1, h2⟩ := iha _ _ _ _ hs ha
      try simp only [h1]
      exact ihb _ _ _ _ h2 h
    · rename_i hno
      obtain ⟨s1, h1, h2⟩ := iha _ _ _ _ hs h
      try simp only [h1]
      cases e <;> first | exact ⟨s1, rfl, h2⟩ | exact (hno _ h).elim
  | cond c a b iha ihb =>
    intro s z e z' hs h
    simp only [zCode] at h
    simp only [yCode, hs.aval]
    split at h
    · rename_i t ht
      try simp only [ht]
      cases t with
      | true => simp only [if_true] at h ⊢; exact iha _ _ _ _ hs h
      | false => simp only [Bool.false_eq_true, if_false] at h ⊢; exact ihb _ _ _ _ hs h
    · cases h
  | block id c ih =>
    intro s z e z' hs h
    simp only [zCode] at h
    simp only [yCode]
    split at h
    · rename_i id' z1 hx
      obtain ⟨s1, h1, h2⟩ := ih _ _ _ _ hs hx
      try simp only [h1]
      split at h
      · rename_i hid
        simp only [Option.some.injEq, Prod.mk.injEq] at h
        obtain ⟨rfl, rfl⟩ := h
        rw [if_pos hid]
        exact ⟨s1, rfl, h2⟩
      · rename_i hid
        simp only [Option.some.injEq, Prod.mk.injEq] at h
        obtain ⟨rfl, rfl⟩ := h
        rw [if_neg hid]
        exact ⟨s1, rfl, h2⟩
    · rename_i hno
      obtain ⟨s1, h1, h2⟩ := ih _ _ _ _ hs h
      try simp only [h1]
      cases e <;> first | exact ⟨s1, rfl, h2⟩ | exact (hno _ _ h).elim
  | loop c ih =>
    intro s z e z' hs h
    simp only [zCode] at h
    simp only [yCode]
    have loop : ∀ (k : Nat) (s : AState) (z : ZS), Sim s z → zLoop (zCode P call pf ann fuel c) k z = some (e, z') → ∃ s', xLoop (yCode P call pf ann fuel c) k s = some (e, s') ∧ Sim s' z' := by
      intro k
      induction k with
      | zero => intro s z hs h; simp [zLoop] at h
      | succ k ihk =>
        intro s z hs h
        simp only [zLoop] at h
        simp only [xLoop]
        split at h
        · rename_i z1 hx
          obtain ⟨s1, h1, h2⟩ := ih _ _ _ _ hs hx
          try simp only [h1]
          exact ihk _ _ h2 h
        · rename_i hno
          obtain ⟨s1, h1, h2⟩ := ih _ _ _ _ hs h
          try simp only [h1]
          cases e <;> first | exact ⟨s1, rfl, h2⟩ | exact (hno _ h).elim
    exact loop fuel s z hs h
  | _ => intro s z e z' hs h; simp [zCode] at h
end
end Go.AL
namespace Go.AL
open Go

noncomputable def initZ : Nat → List AV → Tr AV → Tr AV
  | _, [], t => t
  | i, v :: vs, t => initZ (i + 1) vs (t.setF i i v)

theorem initZ_get (m : Nat) : ∀ (vs : List AV) (i : Nat) (t : Tr AV), (initZ i vs t).get m = match lget (initT i vs) m with | some v => some v | none => t.get m
  | [], i, t => by simp [initZ, initT, lget_nil]
  | v :: vs, i, t => by
    simp only [initZ, initT, lget_cons]
    rw [initZ_get m vs (i + 1), Tr.get_setF v i t i m (Nat.le_refl _)]
    by_cases h : i = m
    · subst h
      cases hl : lget (initT (i + 1) vs) i with
      | none => simp
      | some x => have := (lget_initT i x vs (i + 1) hl).1; omega
    · simp only [h, if_false, Ne.symm h]

/-- A function's results, of a tree. -/
noncomputable def zRes1 (P : Program) (z : ZS) : ResultVar → Option AV
  | .tmp t => some ((z.t.get t).getD .undef)
  | .cell a t => aLoad P t ((z.t.get a).getD .undef) z.H
noncomputable def zResL (P : Program) (z : ZS) : List ResultVar → Option (List AV)
  | [] => some []
  | r :: rs => match zRes1 P z r, zResL P z rs with
    | some v, some vs => some (v :: vs)
    | _, _ => none
noncomputable def zRes (P : Program) (fn : Func) (z : ZS) : Option AV := match zResL P z fn.results.toList with
  | some [v] => some v
  | some vs => some (.tup vs)
  | none => none

theorem Sim.res1 {P : Program} {s : AState} {z : ZS} (h : Sim s z) (r : ResultVar) : aRes1 P s r = zRes1 P z r := by
  cases r <;> simp only [aRes1, zRes1, h.1, h.2]
theorem Sim.resL {P : Program} {s : AState} {z : ZS} (h : Sim s z) : ∀ rs, aResL P s rs = zResL P z rs
  | [] => rfl
  | r :: rs => by simp only [aResL, zResL, h.res1, h.resL rs]; rfl
theorem Sim.res {P : Program} {s : AState} {z : ZS} (h : Sim s z) (fn : Func) : aRes P fn s = zRes P fn z := by simp only [aRes, zRes, h.resL]; rfl

noncomputable def zBody (P : Program) (call : Know) (pf : FuncId → Bool) (fuel : Nat) (fn : Func) (args : List AV) (h : List AObj) : Option (AV × List AObj) :=
  match fn.body with
  | none => none
  | some c => if args.length ≤ fn.ntmps then
      match zCode P call pf annAll fuel c ⟨initZ 0 args .lf, ⟨[], h⟩⟩ with
      | some (.normal, s) | some (.ret, s) => match zRes P fn s with
        | some r => if r.noLoc then some (r, s.H.heap) else none
        | none => none
      | _ => none
    else none

theorem zBody_y {P : Program} {call : Know} {pf : FuncId → Bool} {fuel : Nat} {fn : Func} {args : List AV} {h : List AObj} {r : AV} {h' : List AObj} (hx : zBody P call pf fuel fn args h = some (r, h')) : yBody P call pf fuel fn args h = some (r, h') := by
  unfold zBody at hx
  unfold yBody
  have h0 : Sim ⟨initT 0 args, ⟨[], h⟩⟩ ⟨initZ 0 args .lf, ⟨[], h⟩⟩ := ⟨by funext m; rw [initZ_get, Tr.get_lf]; cases lget (initT 0 args) m <;> rfl, rfl⟩
  split at hx
  · cases hx
  · rename_i c hb
    try simp only [hb]
    split at hx
    · rename_i hn
      rw [if_pos hn]
      split at hx
      · rename_i z hz
        obtain ⟨s', h1, h2⟩ := zCode_sim _ _ _ _ _ h0 hz
        simp only [h1, h2.res, h2.2]
        exact hx
      · rename_i z hz
        obtain ⟨s', h1, h2⟩ := zCode_sim _ _ _ _ _ h0 hz
        simp only [h1, h2.res, h2.2]
        exact hx
      · cases hx
    · cases hx

noncomputable def zCall (P : Program) (E : Env) : Nat → Know
  | 0, f, args, h => none
  | d + 1, f, args, h => match E.tabP f with
    | some g => match g args with
      | some r => some (r, h)
      | none => none
    | none => match E.tab f with
      | some g => g args h
      | none => match P.funcs[f]? with
        | none => none
        | some fn => if E.pure f then (if args.all AV.pure then (match zBody P (zCall P E d) E.pf E.fuel fn args [] with
            | some (r, h') => match frz h' E.deep r with
              | some r' => some (r', h)
              | none => none
            | none => none) else none)
          else zBody P (zCall P E d) E.pf E.fuel fn args h

theorem zCall_sound {P : Program} {E : Env} (hm : P.follows .mixedOrders = true) (hall : allDsts P = true) (hE : E.ok P) : ∀ d, (zCall P E d).ok P ∧ PureOK P (zCall P E d) E.pf
  | 0 => ⟨fun f args h r h' hx => by simp [zCall] at hx, fun f args h r h' _ hx => by simp [zCall] at hx⟩
  | d + 1 => by
    obtain ⟨ih1, ih2⟩ := zCall_sound hm hall hE d
    have pureWalk : ∀ {f : FuncId} {fn : Func} {args : List AV} {h : List AObj} {r : AV} {h' : List AObj}, P.funcs[f]? = some fn → (if args.all AV.pure then (match zBody P (zCall P E d) E.pf E.fuel fn args [] with
            | some (r, h') => match frz h' E.deep r with
              | some r' => some (r', h)
              | none => none
            | none => none) else none) = some (r, h') → h' = h ∧ Fn P f args r := by
      intro f fn args h r h' hf hx
      split at hx
      · rename_i hpure
        split at hx
        · rename_i r1 h1 hb
          split at hx
          · rename_i r' hfr
            cases hx
            refine ⟨rfl, Fn.of_empty (d := E.deep) hpure ((yBody_sound hm hall ih1 ih2 hf (zBody_y hb)).mono ?_)⟩
            rintro r2 h2 ⟨rfl, rfl⟩
            exact hfr
          · cases hx
        · cases hx
      · cases hx
    refine ⟨fun f args h r h' hx => ?_, fun f args h r h' hpf hx => ?_⟩
    · simp only [zCall] at hx
      split at hx
      · rename_i g hg
        split at hx
        · rename_i r' hr
          cases hx
          exact hE.tabP f g hg args r hr h
        · cases hx
      · split at hx
        · rename_i g hg; exact hE.tab f g hg args h r h' hx
        · split at hx
          · cases hx
          · rename_i fn hf
            split at hx
            · obtain ⟨rfl, h2⟩ := pureWalk hf hx
              exact h2 h'
            · exact yBody_sound hm hall ih1 ih2 hf (zBody_y hx)
    · simp only [zCall] at hx
      split at hx
      · rename_i g hg
        split at hx
        · rename_i r' hr
          cases hx
          exact ⟨rfl, hE.tabP f g hg args r hr⟩
        · cases hx
      · rename_i hnP
        split at hx
        · rename_i g hg
          simp [Env.pf, hnP, hg] at hpf
        · rename_i hnT
          split at hx
          · cases hx
          · rename_i fn hf
            have : E.pure f = true := by simpa [Env.pf, hnP, hnT] using hpf
            rw [if_pos this] at hx
            exact pureWalk hf hx
theorem Fn.of_z {P : Program} {E : Env} {d : Nat} {f : FuncId} {args : List AV} {r : AV} (hm : P.follows .mixedOrders = true) (hall : allDsts P = true) (hE : E.ok P) (hpf : E.pf f = true) (h : gives (zCall P E d f args []) r = true) : Fn P f args r := by
  unfold gives at h
  split at h
  · rename_i r' h' hx
    rw [← AV.beq_eq h]
    exact ((zCall_sound hm hall hE d).2 f args [] r' h' hpf hx).2
  · cases h

theorem FnQ.of_z {P : Program} {E : Env} {d : Nat} {f : FuncId} {args : List AV} {h : List AObj} {r : AV} (hm : P.follows .mixedOrders = true) (hall : allDsts P = true) (hE : E.ok P) (hx : gives (zCall P E d f args h) r = true) : FnQ P f args h (fun r1 _ => r1 = r) := by
  unfold gives at hx
  split at hx
  · rename_i r' h' hy
    rw [← AV.beq_eq hx]
    exact ((zCall_sound hm hall hE d).1 f args h r' h' hy).mono fun _ _ h => h.1
  · cases hx
end Go.AL
namespace Go.AL
open Go

/-- A value whose new objects (from the n-th on) are never written again. -/
def frzN (lo : Nat) (h : List AObj) : Nat → AV → Option AV
  | 0, _ => none
  | d + 1, v => match v with
    | .sl (.hp i) g sz off len => if i < lo then some (.sl (.hp i) g sz off len) else match h[i]? with
      | some (.cells g' e xs) => if g = g' then (if len = 0 then some (.vs 0 []) else if off + len * sz ≤ xs.length then (((xs.drop off).take (len * sz)).mapM (frzN lo h d)).map (.vs len) else none) else none
      | _ => none
    | .ptr (.hp i) g off => if i < lo then some (.ptr (.hp i) g off) else match h[i]? with
      | some (.cells g' e xs) => if g = g' then ((xs.drop off).mapM (frzN lo h d)).map .vp else none
      | _ => none
    | .vs n xs => (xs.mapM (frzN lo h d)).map (.vs n)
    | .vp xs => (xs.mapM (frzN lo h d)).map .vp
    | .agg xs => (xs.mapM (frzN lo h d)).map .agg
    | .tup xs => (xs.mapM (frzN lo h d)).map .tup
    | .bool b => some (.bool b)
    | .int k n => some (.int k n)
    | .str s => some (.str s)
    | .nil => some .nil
    | .nilp => some .nilp
    | .nilmap => some .nilmap
    | .fn f xs ys => match xs.mapM (frzN lo h d), ys.mapM (frzN lo h d) with
      | some xs', some ys' => some (.fn f xs' ys')
      | _, _ => none
    | .map (.hp i) g => if i < lo then some (.map (.hp i) g) else none
    | _ => none

theorem frzN_sound {B : Base} {L : Lay} {S S' : Nat → Prop} {n : Nat} {h : List AObj} {w : World} (hr : HR B L S ⟨[], h⟩ w) (hS : ∀ b, S b → S' b) (hL : ∀ i r b, n ≤ i → L (.hp i) = some r → r.blk = some b → S' b) (L' : Lay) (hL' : ∀ i, i < n → L' (.hp i) = L (.hp i)) :
    ∀ (d : Nat) (v x : AV) (u : Value), frzN n h d v = some x → VR L S w v u → VR L' S' w x u := by
  intro d
  induction d with
  | zero => intro v x u h1; simp [frzN] at h1
  | succ d ih =>
    have lift : ∀ {xs ys : List AV} {us : List Value}, xs.mapM (frzN n h d) = some ys → us.length = xs.length → (∀ (j : Nat) (x : AV) (u : Value), xs[j]? = some x → us[j]? = some u → VR L S w x u) →
        us.length = ys.length ∧ ∀ (j : Nat) (x : AV) (u : Value), ys[j]? = some x → us[j]? = some u → VR L' S' w x u := fun hm hl hv => by
      obtain ⟨h1, h2⟩ := mapM_get hm
      refine ⟨by omega, fun j y u hy hu => ?_⟩
      obtain ⟨x, h3, h4⟩ := h2 j y hy
      exact ih x y u h4 (hv j x u h3 hu)
    intro v x u h1 hv
    unfold frzN at h1
    split at h1
    · rename_i i g sz off len
      by_cases hin : i < n
      · rw [if_pos hin] at h1
        cases h1
        cases hv with
        | slStale h2 h3 a n c => exact .slStale ((hL' _ hin).trans h2) h3 a n c
        | sl h2 h3 h4 h5 h6 => exact .sl ((hL' _ hin).trans h2) h3 h4 h5 h6
        | slEnd h2 h3 h4 a => exact .slEnd ((hL' _ hin).trans h2) h3 h4 a
        | slNone h2 h3 h4 => exact .slNone ((hL' _ hin).trans h2) h3 h4
      rw [if_neg hin] at h1
      split at h1
      · rename_i g' e xs hi
        split at h1
        · rename_i hg
          subst hg
          have hget : (⟨[], h⟩ : AH).get (.hp i) = some (.cells g e xs) := hi
          split at h1
          · rename_i h0
            subst h0
            cases h1
            cases hv with
            | slStale hL' hg a n c =>
              obtain ⟨r, h2, h3⟩ := hr.obj _ _ hget
              rw [hL'] at h2; cases h2
              have := h3.gen
              simp only [AObj.gen] at this
              omega
            | sl hL' hg hb hcap hlen => exact .vs0 _ _
            | slEnd hL' hg hoff a => exact .vs0 _ _
            | slNone hL' hg hb => exact .vs0 _ _
          · rename_i h0
            split at h1
            · rename_i hle
              simp only [Option.map_eq_some_iff] at h1
              obtain ⟨ys, h2, rfl⟩ := h1
              cases hv with
              | slStale hL' hg a n c =>
                obtain ⟨r, h2, h3⟩ := hr.obj _ _ hget
                rw [hL'] at h2; cases h2
                have := h3.gen
                simp only [AObj.gen] at this
                omega
              | @sl _ _ _ _ _ r b cap hL' hg hb hcap hlen =>
                obtain ⟨b', o', us, he, hc⟩ := pcells_sound hr (p := .ptr (.hp i) g off) (xs := xs.drop off) (by simp [pcells, hget]) (VR.ptr hL' hg hb)
                cases he
                have hc' := hc.take (len * sz)
                obtain ⟨h3, h4⟩ := lift h2 hc'.len hc'.val
                exact .vs (hL _ _ _ (by omega) hL' hb) hlen _ h3 hc'.cell h4
              | slEnd hL' hg hoff a => exact absurd rfl h0
              | slNone hL' hg hb => exact absurd rfl h0
            · cases h1
        · cases h1
      · cases h1
    · rename_i i g off
      by_cases hin : i < n
      · rw [if_pos hin] at h1
        cases h1
        cases hv with
        | ptrStale h2 h3 a => exact .ptrStale ((hL' _ hin).trans h2) h3 a
        | ptr h2 h3 h4 => exact .ptr ((hL' _ hin).trans h2) h3 h4
      rw [if_neg hin] at h1
      split at h1
      · rename_i g' e xs hi
        split at h1
        · rename_i hg
          subst hg
          have hget : (⟨[], h⟩ : AH).get (.hp i) = some (.cells g e xs) := hi
          simp only [Option.map_eq_some_iff] at h1
          obtain ⟨ys, h2, rfl⟩ := h1
          cases hv with
          | ptrStale hL' hg a =>
            obtain ⟨r, h2, h3⟩ := hr.obj _ _ hget
            rw [hL'] at h2; cases h2
            have := h3.gen
            simp only [AObj.gen] at this
            omega
          | ptr hL' hg hb =>
            obtain ⟨b', o', us, he, hc⟩ := pcells_sound hr (p := .ptr (.hp i) g off) (xs := xs.drop off) (by simp [pcells, hget]) (VR.ptr hL' hg hb)
            cases he
            obtain ⟨h3, h4⟩ := lift h2 hc.len hc.val
            exact .vp (hL _ _ _ (by omega) hL' hb) _ h3 hc.cell h4
        · cases h1
      · cases h1
    · rename_i n xs
      simp only [Option.map_eq_some_iff] at h1
      obtain ⟨ys, h2, rfl⟩ := h1
      cases hv with
      | vs0 a cap => simp at h2; subst h2; exact .vs0 _ _
      | vs hSb hcap us hl hc hv => obtain ⟨h3, h4⟩ := lift h2 hl hv; exact .vs (hS _ hSb) hcap us h3 hc h4
    · rename_i xs
      simp only [Option.map_eq_some_iff] at h1
      obtain ⟨ys, h2, rfl⟩ := h1
      cases hv with
      | vp hSb us hl hc hv => obtain ⟨h3, h4⟩ := lift h2 hl hv; exact .vp (hS _ hSb) us h3 hc h4
    · rename_i xs
      simp only [Option.map_eq_some_iff] at h1
      obtain ⟨ys, h2, rfl⟩ := h1
      cases hv with
      | agg us hl hv => obtain ⟨h3, h4⟩ := lift h2 hl hv; exact .agg us h3 h4
    · rename_i xs
      simp only [Option.map_eq_some_iff] at h1
      obtain ⟨ys, h2, rfl⟩ := h1
      cases hv with
      | tup us hl hv => obtain ⟨h3, h4⟩ := lift h2 hl hv; exact .tup us h3 h4
    · cases h1; cases hv; exact .bool _
    · cases h1; cases hv; exact .int _ _
    · cases h1; cases hv; exact .str _
    · cases h1; cases hv; exact .nil
    · cases h1; cases hv; exact .nilp
    · cases h1; cases hv; exact .nilmap
    · rename_i f xs ys
      split at h1
      · rename_i xs' ys' h2 h3
        cases h1
        cases hv with
        | fn us ws hl hl' hv hv' =>
          obtain ⟨h4, h5⟩ := lift h2 hl hv
          obtain ⟨h6, h7⟩ := lift h3 hl' hv'
          exact .fn us ws h4 h6 h5 h7
      · cases h1
    · rename_i i g
      split at h1
      · rename_i hin
        cases h1
        cases hv with
        | mapStale h2 h3 a => exact .mapStale ((hL' _ hin).trans h2) h3 a
        | map h2 h3 h4 => exact .map ((hL' _ hin).trans h2) h3 h4
      · cases h1
    · cases h1

def lowK (n : Nat) : Key → Bool
  | .loc _ => false
  | .hp i => decide (i < n)

/-- What a function made is forgotten, where it turned nothing else and its answer is frozen. -/
theorem FnQ.ro {P : Program} {f : FuncId} {args : List AV} {h : List AObj} {r : AV} {d : Nat} (hx : FnQ P f args h (fun r' h' => frzN h.length h' d r' = some r ∧ h'.take h.length = h)) : FnQ P f args h (fun r1 h1 => r1 = r ∧ h1 = h) := by
  intro L S w us hloc hr hv
  refine (hx L S w us hloc hr hv).mono ?_
  rintro e w' ⟨u, r', h', L', S', rfl, ⟨hq, ht⟩, hvr, hr', hloc'⟩
  have hget : ∀ i, i < h.length → h'[i]? = h[i]? := fun i hi => by
    have : (h'.take h.length)[i]? = h'[i]? := by rw [List.getElem?_take, if_pos hi]
    rw [← this, ht]
  have hdom : ∀ k r, L k = some r → lowK h.length k = true := fun k r hk => by
    cases k with
    | loc κ => rw [hloc] at hk; cases hk
    | hp i =>
      have := hr.dom (.hp i) r hk
      simp only [AH.get] at this
      cases hi : h[i]? with
      | none => exact absurd hi this
      | some o => simpa [lowK] using (List.getElem?_eq_some_iff.1 hi).1
  have hsame : ∀ i, i < h.length → L' (.hp i) = L (.hp i) := fun i hi => by
    have hi1 : h[i]? = some h[i] := List.getElem?_eq_getElem hi
    obtain ⟨r1, h1, h2⟩ := hr.obj (.hp i) h[i] hi1
    obtain ⟨r2, h3, h4⟩ := hr'.obj (.hp i) h[i] ((hget i hi).trans hi1)
    obtain ⟨r3, h5, h6, h7⟩ := hr'.lay i r1 h1
    rw [h3] at h5; cases h5
    rw [h3, h1, h7 (by rw [h4.gen, h2.gen])]
  have hres := hr'.res (H' := ⟨[], h⟩) (dom := lowK h.length) (fun k => by
      cases k with
      | loc κ => simp [AH.get, lget_nil, lowK]
      | hp i =>
        simp only [AH.get, lowK]
        by_cases hi : i < h.length
        · simp [hi, hget i hi]
        · simp [hi]) (fun k o ho => by
      obtain ⟨r1, h1, h2⟩ := hr.obj k o ho
      refine h2.inK fun k' r' hk' => ?_
      cases k with
      | loc κ => simp [AH.get, lget_nil] at ho
      | hp i =>
        cases k' with
        | loc κ' => simp [Lay.at, Lay.hpOnly] at hk'
        | hp j => exact hdom (.hp j) r' (by simpa [Lay.at, Lay.hpOnly] using hk')) (fun i r hi => hdom _ r hi)
  let N : Nat → Prop := fun b => ∃ i r, h.length ≤ i ∧ L' (.hp i) = some r ∧ r.blk = some b
  have hNlt : ∀ b, N b → b < w'.heap.size := fun b ⟨i, r, _, h2, h3⟩ => hr'.lt _ r b h2 h3
  have hNown : ∀ b, N b → (∃ i r, L (.hp i) = some r ∧ r.blk = some b) ∨ w.heap.size ≤ b := fun b ⟨i, r, _, h2, h3⟩ => hr'.own _ r b h2 h3
  have hrl : ∀ k r, L'.res (lowK h.length) k = some r → L' k = some r ∧ lowK h.length k = true := fun k r hk => by
    simp only [Lay.res] at hk
    split at hk
    · rename_i hl; exact ⟨hk, hl⟩
    · cases hk
  refine ⟨u, r, h, L'.res (lowK h.length), fun b => S' b ∨ N b, rfl, ⟨rfl, rfl⟩, ?_, ?_, fun κ => by simp [Lay.res, lowK]⟩
  · exact frzN_sound hr' (fun b hb => .inl hb) (fun i r b hi h1 h2 => .inr ⟨i, r, hi, h1, h2⟩) _ (fun i hi => by simp [Lay.res, lowK, hi]) d r' r u hq hvr
  · exact
    { obj := fun k o ho => by
        obtain ⟨r1, h1, h2⟩ := hres.obj k o ho
        exact ⟨r1, h1, h2.mono (Lay.le_refl _) (fun b hb => .inl hb) (fun b _ => rfl) (fun b _ => rfl)⟩
      dom := hres.dom
      inj := hres.inj
      lt := hres.lt
      stab := fun k r1 b h1 h2 hb => by
        obtain ⟨h3, h4⟩ := hrl k r1 h1
        rcases hb with hb | ⟨i, r2, h5, h6, h7⟩
        · exact hr'.stab k r1 b h3 h2 hb
        · have := hr'.inj _ _ r1 r2 b h3 h6 h2 h7
          subst this
          simp [lowK] at h4
          omega
      own := hres.own
      Slt := fun b hb => hb.elim (hr'.Slt b) (hNlt b)
      Sb := fun b hb => hb.elim (hr'.Sb b) (fun hb => .inr (hNown b hb))
      S0 := fun b hb => .inl (hr'.S0 b hb)
      os := hr'.os, tape := hr'.tape, output := hr'.output, size := hr'.size
      keep := hr'.keep
      lay := hres.lay }
end Go.AL
namespace Go.AL
open Go

def pairsBeq : List (AV × AV) → List (AV × AV) → Bool
  | [], [] => true
  | x :: xs, y :: ys => x.1.beq y.1 && x.2.beq y.2 && pairsBeq xs ys
  | _, _ => false
theorem pairsBeq_eq : ∀ {xs ys : List (AV × AV)}, pairsBeq xs ys = true → xs = ys
  | [], ys, h => by cases ys <;> simp [pairsBeq] at h; rfl
  | x :: xs, ys, h => by
    cases ys with
    | nil => simp [pairsBeq] at h
    | cons y ys =>
      simp [pairsBeq] at h
      rw [pairsBeq_eq h.2, Prod.ext (AV.beq_eq h.1.1) (AV.beq_eq h.1.2)]
def AObj.beq : AObj → AObj → Bool
  | .cells g e xs, .cells g' e' ys => Nat.beq g g' && decide (e = e') && beqs xs ys
  | .map g es, .map g' fs => Nat.beq g g' && pairsBeq es fs
  | _, _ => false
theorem AObj.beq_eq {a b : AObj} (h : a.beq b = true) : a = b := by
  cases a <;> cases b <;> simp [AObj.beq] at h
  · rw [h.1.1, h.1.2, beqs_eq h.2]
  · rw [h.1, pairsBeq_eq h.2]
/-- Does the one list begin the other? -/
def preBeq : List AObj → List AObj → Bool
  | [], _ => true
  | x :: xs, y :: ys => x.beq y && preBeq xs ys
  | _, _ => false
theorem preBeq_eq : ∀ {xs ys : List AObj}, preBeq xs ys = true → ys.take xs.length = xs
  | [], ys, h => by simp
  | x :: xs, ys, h => by
    cases ys with
    | nil => simp [preBeq] at h
    | cons y ys => simp [preBeq] at h; simp [AObj.beq_eq h.1, preBeq_eq h.2]

structure EnvR extends Env where
  ro : FuncId → Bool := fun _ => false

noncomputable def rCall (P : Program) (E : EnvR) : Nat → Know
  | 0, f, args, h => none
  | d + 1, f, args, h => match E.tabP f with
    | some g => match g args with
      | some r => some (r, h)
      | none => none
    | none => match E.tab f with
      | some g => g args h
      | none => match P.funcs[f]? with
        | none => none
        | some fn => if E.pure f then (if args.all AV.pure then (match zBody P (rCall P E d) E.pf E.fuel fn args [] with
            | some (r, h') => match frz h' E.deep r with
              | some r' => some (r', h)
              | none => none
            | none => none) else none)
          else if E.ro f then (match zBody P (rCall P E d) E.pf E.fuel fn args h with
            | some (r, h') => if preBeq h h' then (match frzN h.length h' E.deep r with
              | some r' => some (r', h)
              | none => none) else none
            | none => none)
          else zBody P (rCall P E d) E.pf E.fuel fn args h

theorem rCall_sound {P : Program} {E : EnvR} (hm : P.follows .mixedOrders = true) (hall : allDsts P = true) (hE : E.toEnv.ok P) : ∀ d, (rCall P E d).ok P ∧ PureOK P (rCall P E d) E.pf
  | 0 => ⟨fun f args h r h' hx => by simp [rCall] at hx, fun f args h r h' _ hx => by simp [rCall] at hx⟩
  | d + 1 => by
    obtain ⟨ih1, ih2⟩ := rCall_sound hm hall hE d
    have pureWalk : ∀ {f : FuncId} {fn : Func} {args : List AV} {h : List AObj} {r : AV} {h' : List AObj}, P.funcs[f]? = some fn → (if args.all AV.pure then (match zBody P (rCall P E d) E.pf E.fuel fn args [] with
            | some (r, h') => match frz h' E.deep r with
              | some r' => some (r', h)
              | none => none
            | none => none) else none) = some (r, h') → h' = h ∧ Fn P f args r := by
      intro f fn args h r h' hf hx
      split at hx
      · rename_i hpure
        split at hx
        · rename_i r1 h1 hb
          split at hx
          · rename_i r' hfr
            cases hx
            refine ⟨rfl, Fn.of_empty (d := E.deep) hpure ((yBody_sound hm hall ih1 ih2 hf (zBody_y hb)).mono ?_)⟩
            rintro r2 h2 ⟨rfl, rfl⟩
            exact hfr
          · cases hx
        · cases hx
      · cases hx
    refine ⟨fun f args h r h' hx => ?_, fun f args h r h' hpf hx => ?_⟩
    · simp only [rCall] at hx
      split at hx
      · rename_i g hg
        split at hx
        · rename_i r' hr
          cases hx
          exact hE.tabP f g hg args r hr h
        · cases hx
      · split at hx
        · rename_i g hg; exact hE.tab f g hg args h r h' hx
        · split at hx
          · cases hx
          · rename_i fn hf
            split at hx
            · obtain ⟨rfl, h2⟩ := pureWalk hf hx
              exact h2 h'
            · split at hx
              · split at hx
                · rename_i r1 h1 hb
                  split at hx
                  · rename_i hpre
                    split at hx
                    · rename_i r2 hfr
                      cases hx
                      refine FnQ.ro (d := E.deep) ((yBody_sound hm hall ih1 ih2 hf (zBody_y hb)).mono ?_)
                      rintro r3 h3 ⟨rfl, rfl⟩
                      exact ⟨hfr, preBeq_eq hpre⟩
                    · cases hx
                  · cases hx
                · cases hx
              · exact yBody_sound hm hall ih1 ih2 hf (zBody_y hx)
    · simp only [rCall] at hx
      split at hx
      · rename_i g hg
        split at hx
        · rename_i r' hr
          cases hx
          exact ⟨rfl, hE.tabP f g hg args r hr⟩
        · cases hx
      · rename_i hnP
        split at hx
        · rename_i g hg
          simp [Env.pf, hnP, hg] at hpf
        · rename_i hnT
          split at hx
          · cases hx
          · rename_i fn hf
            have : E.pure f = true := by simpa [Env.pf, hnP, hnT] using hpf
            rw [if_pos this] at hx
            exact pureWalk hf hx
theorem Fn.of_r {P : Program} {E : EnvR} {d : Nat} {f : FuncId} {args : List AV} {r : AV} (hm : P.follows .mixedOrders = true) (hall : allDsts P = true) (hE : E.toEnv.ok P) (hpf : E.pf f = true) (h : gives (rCall P E d f args []) r = true) : Fn P f args r := by
  unfold gives at h
  split at h
  · rename_i r' h' hx
    rw [← AV.beq_eq h]
    exact ((rCall_sound hm hall hE d).2 f args [] r' h' hpf hx).2
  · cases h

theorem FnQ.of_r {P : Program} {E : EnvR} {d : Nat} {f : FuncId} {args : List AV} {h : List AObj} {r : AV} (hm : P.follows .mixedOrders = true) (hall : allDsts P = true) (hE : E.toEnv.ok P) (hx : gives (rCall P E d f args h) r = true) : FnQ P f args h (fun r1 _ => r1 = r) := by
  unfold gives at hx
  split at hx
  · rename_i r' h' hy
    rw [← AV.beq_eq hx]
    exact ((rCall_sound hm hall hE d).1 f args h r' h' hy).mono fun _ _ h => h.1
  · cases hx
end Go.AL
namespace Go.AL
open Go

/-- Fields, one behind the other, from a cell on to another. -/
def runsF (P : Program) : List Field → Nat → Nat → Bool
  | [], o, z => o == z
  | f :: fs, o, z => (f.offset == o) && runsF P fs (o + P.cellsOf f.type) z

/-- Plain types: bools, whole numbers, strings, slices and structs of them. -/
def plainT (P : Program) : Nat → TypeId → Bool
  | 0, _ => false
  | n + 1, t => match P.underlying t with
    | some .bool => P.cellsOf t == 1
    | some (.int _) => P.cellsOf t == 1
    | some .string => P.cellsOf t == 1
    | some (.slice e) => plainT P n e && decide (0 < P.cellsOf e) && (P.cellsOf t == 1)
    | some (.struct fs) => fs.toList.all (fun f => plainT P n f.type) && runsF P fs.toList 0 (P.cellsOf t)
    | _ => false

def FitF (fit : TypeId → List AV → Prop) : List Field → List AV → Prop
  | [], xs => xs = []
  | f :: fs, xs => ∃ a b, xs = a ++ b ∧ fit f.type a ∧ FitF fit fs b

/-- The cells of a value of a plain type. -/
def Fit (P : Program) : Nat → TypeId → List AV → Prop
  | 0, _, _ => False
  | n + 1, t, xs => match P.underlying t with
    | some .bool => ∃ b, xs = [.bool b]
    | some (.int k) => ∃ v, xs = [.int k v] ∧ (Lit.int k v).wf = true
    | some .string => ∃ s, xs = [.str s] ∧ s.size ≤ maxLen
    | some (.slice e) => ∃ els : List (List AV), els.length ≤ maxLen ∧ xs = [.vs els.length els.flatten] ∧ ∀ el ∈ els, Fit P n e el
    | some (.struct fs) => FitF (Fit P n) fs.toList xs
    | _ => False

section
variable {H : Type} {enc : TypeId × Value → H} {P : Program} {w : World} {held : Bool}

def L0 : Lay := fun _ => none
def Sold (w : World) : Nat → Prop := fun b => b < w.heap.size

theorem VRs.append {L : Lay} {S : Nat → Prop} {w : World} {xs ys : List AV} {us vs : List Value} (h1 : VRs L S w xs us) (h2 : VRs L S w ys vs) : VRs L S w (xs ++ ys) (us ++ vs) := by
  refine ⟨by simp [h1.1, h2.1], fun j x u hx hu => ?_⟩
  by_cases hj : j < xs.length
  · rw [List.getElem?_append_left hj] at hx
    rw [List.getElem?_append_left (by rw [h1.1]; exact hj)] at hu
    exact h1.2 j x u hx hu
  · rw [List.getElem?_append_right (by omega)] at hx
    rw [List.getElem?_append_right (by rw [h1.1]; omega), h1.1] at hu
    exact h2.2 _ x u hx hu

theorem VRs.one {L : Lay} {S : Nat → Prop} {w : World} {x : AV} {u : Value} (h : VR L S w x u) : VRs L S w [x] [u] :=
  ⟨rfl, fun j y v hy hv => by cases j with | zero => simp at hy hv; subst hy; subst hv; exact h | succ j => simp at hy⟩

theorem trod_fit (spare : Nat → Bool) : ∀ (n fuel : Nat) (t : TypeId) (cs : List Value) (x : DataW H × List MemPlace), plainT P n t = true → DataW.trod enc P w 0 spare held fuel t cs = some x →
    ∃ xs, Fit P n t xs ∧ VRs L0 (Sold w) w xs cs ∧ cs.length = P.cellsOf t := by
  intro n
  induction n with
  | zero => intro fuel t cs x hp; simp [plainT] at hp
  | succ n ih =>
    intro fuel t cs x hp h
    unfold plainT at hp
    split at hp
    · rename_i hu
      obtain ⟨b, rfl, _⟩ := DataW.trod_bool hu h
      exact ⟨[.bool b], by simp only [Fit, hu]; exact ⟨b, rfl⟩, .one (.bool b), by simpa using (beq_iff_eq.1 hp).symm⟩
    · rename_i k hu
      obtain ⟨v, rfl, _, hw⟩ := DataW.trod_int hu h
      exact ⟨[.int k v], by simp only [Fit, hu]; exact ⟨v, rfl, hw⟩, .one (.int k v), by simpa using (beq_iff_eq.1 hp).symm⟩
    · rename_i hu
      obtain ⟨s, rfl, _, hs⟩ := DataW.trod_string hu h
      exact ⟨[.str s], by simp only [Fit, hu]; exact ⟨s, rfl, hs⟩, .one (.str s), by simpa using (beq_iff_eq.1 hp).symm⟩
    · rename_i e hu
      simp only [Bool.and_eq_true, decide_eq_true_eq, beq_iff_eq] at hp
      obtain ⟨⟨hpe, hsz⟩, h1⟩ := hp
      rcases DataW.trod_slice hu h with ⟨rfl, _⟩ | ⟨a, len, cap, elems, rest, m, _, rfl, _, hb, hl, hm, hlen, hel, _, _⟩
      · exact ⟨[.vs 0 []], by simp only [Fit, hu]; exact ⟨[], by simp [maxLen], rfl, by simp⟩, .one (.vs0 none 0), by simpa using h1.symm⟩
      · have each : ∀ i, i < len → ∃ cs' xs, w.cells? 0 (a.add (i * P.cellsOf e)) (P.cellsOf e) = some cs' ∧ Fit P n e xs ∧ VRs L0 (Sold w) w xs cs' := fun i hi => by
          have h2 := hel i hi
          have h3 : elems[i]? = some (elems[i]'(by omega)) := List.getElem?_eq_getElem (by omega)
          rw [h3] at h2
          obtain ⟨cs', h4, h5⟩ := Option.bind_eq_some_iff.1 h2
          obtain ⟨xs, h6, h7, _⟩ := ih _ _ _ _ hpe h5
          exact ⟨cs', xs, h4, h6, h7⟩
        by_cases h0 : len = 0
        · subst h0
          exact ⟨[.vs 0 []], by simp only [Fit, hu]; exact ⟨[], by simp [maxLen], rfl, by simp⟩, .one (.vs0 _ cap), by simpa using h1.symm⟩
        · -- the address is a plain one
          obtain ⟨cs0, _, hc0, _, _⟩ := each 0 (by omega)
          obtain ⟨_, hl0, hcell0⟩ := World.cells?_some hc0
          have hblk : a.block < w.heap.size := by
            have := World.cells?_block hc0 hsz
            rwa [Nat.zero_mul, show a.add 0 = a from rfl] at this
          obtain ⟨b, o, sp⟩ := a
          have hsp : sp = none := by
            have h5 := hcell0 0 hsz
            rw [List.getElem?_eq_getElem (by omega)] at h5
            simp only [Nat.zero_mul, Addr.add, if_true] at h5
            unfold World.cell? at h5
            split at h5
            · split at h5
              · cases h5
              · rename_i hs; cases sp with
                | none => rfl
                | some _ => simp at hs
            · cases h5
          subst hsp
          have all : ∀ k, k ≤ len → ∃ (els : List (List AV)) (us : List Value), els.length = k ∧ us.length = k * P.cellsOf e ∧ (∀ (j : Nat) (u : Value), us[j]? = some u → w.cell? ⟨b, o + j, none⟩ = some u) ∧
              VRs L0 (Sold w) w els.flatten us ∧ ∀ el ∈ els, Fit P n e el := by
            intro k
            induction k with
            | zero => intro _; exact ⟨[], [], rfl, by simp, by simp, ⟨rfl, by simp⟩, by simp⟩
            | succ k ihk =>
              intro hk
              obtain ⟨els, us, h2, h3, h4, h5, h6⟩ := ihk (by omega)
              obtain ⟨cs', xs, h7, h8, h9⟩ := each k (by omega)
              obtain ⟨_, h10, h11⟩ := World.cells?_some h7
              refine ⟨els ++ [xs], us ++ cs', by simp [h2], by simp [h3, h10, Nat.succ_mul], fun j u hu => ?_, ?_, ?_⟩
              · by_cases hj : j < us.length
                · rw [List.getElem?_append_left hj] at hu; exact h4 j u hu
                · rw [List.getElem?_append_right (by omega)] at hu
                  have hlt : j - us.length < P.cellsOf e := by
                    rw [← h10]; exact (List.getElem?_eq_some_iff.1 hu).1
                  have := h11 _ hlt
                  rw [hu, Addr.add_eq, Addr.add_eq] at this
                  rw [← this]
                  congr 2
                  rw [h3]; omega
              · rw [List.flatten_append]; simpa using h5.append h9
              · intro el hel'
                rcases List.mem_append.1 hel' with h12 | h12
                · exact h6 el h12
                · simp at h12; subst h12; exact h8
          obtain ⟨els, us, h2, h3, h4, h5, h6⟩ := all len (Nat.le_refl _)
          refine ⟨[.vs els.length els.flatten], by simp only [Fit, hu]; exact ⟨els, by omega, rfl, h6⟩, .one ?_, by simpa using h1.symm⟩
          rw [h2]
          exact .vs (show b < w.heap.size from hblk) hl us h5.1 h4 h5.2
    · rename_i fs hu
      simp only [Bool.and_eq_true, List.all_eq_true] at hp
      obtain ⟨xs, m, _, _, hl, hlen, hf⟩ := DataW.trod_struct hu h
      have key : ∀ (l : List Field) (o : Nat), (∀ f ∈ l, f ∈ fs.toList) → runsF P l o (P.cellsOf t) = true →
          ∃ ys, FitF (Fit P n) l ys ∧ VRs L0 (Sold w) w ys (cs.drop o) ∧ o ≤ P.cellsOf t := by
        intro l
        induction l with
        | nil =>
          intro o _ hr
          simp [runsF] at hr
          refine ⟨[], rfl, ?_, by omega⟩
          rw [List.drop_of_length_le (by omega)]
          exact ⟨rfl, by simp⟩
        | cons f l ihl =>
          intro o hm hr
          simp only [runsF, Bool.and_eq_true, beq_iff_eq] at hr
          obtain ⟨ys, h1, h2, h3⟩ := ihl (o + P.cellsOf f.type) (fun g hg => hm g (List.mem_cons_of_mem _ hg)) hr.2
          obtain ⟨i, hi⟩ := List.mem_iff_getElem?.1 (hm f List.mem_cons_self)
          have hfi := hf i f (by simpa using hi)
          have hix : i < xs.length := by
            rw [hlen]
            have := (List.getElem?_eq_some_iff.1 hi).1
            simpa using this
          rw [List.getElem?_eq_getElem hix, hr.1] at hfi
          obtain ⟨zs, h4, h5, _⟩ := ih _ _ _ _ (hp.1 f (hm f List.mem_cons_self)) hfi
          refine ⟨zs ++ ys, ⟨zs, ys, rfl, h4, h1⟩, ?_, by omega⟩
          have : cs.drop o = (cs.drop o).take (P.cellsOf f.type) ++ cs.drop (o + P.cellsOf f.type) := by
            rw [← List.drop_drop]; exact (List.take_append_drop _ _).symm
          rw [this]
          exact h5.append h2
      obtain ⟨ys, h1, h2, _⟩ := key fs.toList 0 (fun f hf => hf) hp.2
      exact ⟨ys, by simp only [Fit, hu]; exact h1, by simpa using h2, hl⟩
    · cases hp
end

/-- The world that a law is called in: nothing is known of objects, all memory stays. -/
theorem HR.law (w : World) : HR (Base.of L0 (Sold w) w) L0 (Sold w) ⟨[], []⟩ w :=
  { obj := fun k o ho => by cases k <;> simp [AH.get, lget_nil] at ho
    dom := fun k r hk => by cases hk
    inj := fun k1 k2 r1 r2 b h1 => by cases h1
    lt := fun k r b h1 => by cases h1
    stab := fun k r b h1 => by cases h1
    own := fun k r b h1 => by cases h1
    Slt := fun b hb => hb
    Sb := fun b hb => .inl hb
    S0 := fun b hb => hb
    os := rfl, tape := rfl, output := rfl, size := Nat.le_refl _
    keep := fun b _ _ => rfl
    lay := fun i r h => by cases h }

/-- A contract over the empty heap, told of the world itself. -/
theorem FnQ.law {P : Program} {f : FuncId} {args : List AV} {b : Bool} (h : FnQ P f args [] (fun r _ => r = .bool b)) {w : World} {us : List Value} (hv : VRs L0 (Sold w) w args us) :
    Calls P f us.toArray w (fun e w' => e = .returned (.bool b) ∧ RowKit.Below w.heap.size w w') := by
  refine (h L0 (Sold w) w us (fun κ => rfl) (HR.law w) hv).mono ?_
  rintro e w' ⟨u, r, h', L', S', rfl, rfl, hvr, hr, _⟩
  cases hvr
  exact ⟨rfl, hr.os, hr.tape, hr.output, hr.size, fun k hk => hr.keep k hk (fun ⟨i, r, h1, _⟩ => by cases h1)⟩
end Go.AL
namespace Go.AL
open Go

/-- A value of a plain type. -/
def AFit (P : Program) (n : Nat) (t : TypeId) (x : AV) : Prop := match P.underlying t with
  | some (.struct _) => ∃ xs, x = .agg xs ∧ Fit P n t xs
  | _ => Fit P n t [x]

theorem arg_fit {H : Type} {enc : TypeId × Value → H} {P : Program} {w : World} {held : Bool} {spare : Nat → Bool} {n : Nat} {t : TypeId} {v : Value} {d : DataW H} {p : List MemPlace} {r : Reach} {base : Nat} (hp : plainT P n t = true)
    (hw : Value.okWide P w r base t v) (h : DataW.Trod enc P w 0 spare held t v d p) : ∃ x, AFit P n t x ∧ VR L0 (Sold w) w x v := by
  obtain ⟨fuel, hf⟩ := h
  obtain ⟨xs, h1, h2, h3⟩ := trod_fit spare n fuel t _ _ hp hf
  have single : v.cells.toList = [v] → (∀ fs, P.underlying t ≠ some (.struct fs)) → ∃ x, AFit P n t x ∧ VR L0 (Sold w) w x v := fun hv hns => by
    rw [hv] at h2
    have hl := h2.1
    match xs, hl with
    | [x], _ =>
      refine ⟨x, ?_, h2.2 0 x v rfl rfl⟩
      unfold AFit
      split
      · rename_i fs hu; exact absurd hu (hns fs)
      · exact h1
  cases n with
  | zero => simp [plainT] at hp
  | succ n =>
    unfold plainT at hp
    split at hp
    · rename_i hu; obtain ⟨b, rfl⟩ := WideShapes.okWide_bool hu hw; exact single rfl (by simp [hu])
    · rename_i k hu; obtain ⟨b, rfl⟩ := WideShapes.okWide_int hu hw; exact single rfl (by simp [hu])
    · rename_i hu; obtain ⟨b, rfl⟩ := WideShapes.okWide_string hu hw; exact single rfl (by simp [hu])
    · rename_i e hu; obtain ⟨a, l, c, rfl⟩ := WideShapes.okWide_slice hu hw; exact single rfl (by simp [hu])
    · rename_i fs hu
      obtain ⟨cs, rfl, _⟩ := WideShapes.okWide_struct hu hw
      refine ⟨.agg xs, ?_, ?_⟩
      · unfold AFit; simp only [hu]; exact ⟨xs, rfl, h1⟩
      · have := VR.agg (L := L0) (S := Sold w) (w := w) (xs := xs) cs.toList (by simpa [Value.cells] using h2.1) (fun j x u hx hu => h2.2 j x u hx (by simpa [Value.cells] using hu))
        simpa using this
    · cases hp
end Go.AL
namespace Go.AL
open Go
theorem Fit.int {P : Program} {n : Nat} {t : TypeId} {xs : List AV} {k : IntKind} (hu : P.underlying t = some (.int k)) (h : Fit P n t xs) : ∃ v, xs = [.int k v] ∧ (Lit.int k v).wf = true := by
  cases n with
  | zero => cases h
  | succ n => simpa only [Fit, hu] using h
theorem Fit.bool {P : Program} {n : Nat} {t : TypeId} {xs : List AV} (hu : P.underlying t = some .bool) (h : Fit P n t xs) : ∃ b, xs = [.bool b] := by
  cases n with
  | zero => cases h
  | succ n => simpa only [Fit, hu] using h
theorem Fit.str {P : Program} {n : Nat} {t : TypeId} {xs : List AV} (hu : P.underlying t = some .string) (h : Fit P n t xs) : ∃ s, xs = [.str s] ∧ s.size ≤ maxLen := by
  cases n with
  | zero => cases h
  | succ n => simpa only [Fit, hu] using h
theorem Fit.slice {P : Program} {n : Nat} {t e : TypeId} {xs : List AV} (hu : P.underlying t = some (.slice e)) (h : Fit P (n + 1) t xs) : ∃ els : List (List AV), els.length ≤ maxLen ∧ xs = [.vs els.length els.flatten] ∧ ∀ el ∈ els, Fit P n e el := by
  simpa only [Fit, hu] using h
theorem Fit.struct {P : Program} {n : Nat} {t : TypeId} {xs : List AV} {fs : Array Field} (hu : P.underlying t = some (.struct fs)) (h : Fit P (n + 1) t xs) : FitF (Fit P n) fs.toList xs := by
  simpa only [Fit, hu] using h
end Go.AL
namespace Go.AL
open Go

/-- A contract that tells the answer and leaves all old memory serves over every heap. -/
theorem Fn.of_below {P : Program} {f : FuncId} {args : List AV} {r : AV} (h : ∀ (L : Lay) (S : Nat → Prop) (w : World) (us : List Value), (∀ b, S b → b < w.heap.size) → VRs L S w args us →
    Calls P f us.toArray w (fun e w' => ∃ u, e = .returned u ∧ (∀ (L : Lay) (S : Nat → Prop) (w : World), VR L S w r u) ∧ RowKit.Below w.heap.size w w')) : Fn P f args r := by
  intro hp L S w us hloc hr hv
  refine (h L S w us hr.Slt hv).mono ?_
  rintro e w' ⟨u, rfl, hvr, hb⟩
  obtain ⟨h1, h2⟩ := hr.grow (w' := w') hb.os hb.tape hb.output hb.size (fun b hlt => hb.block b hlt) (fun _ => False) (fun b hb => hb.elim)
  exact ⟨u, r, hp, L, _, rfl, ⟨rfl, rfl⟩, hvr _ _ _, h1, hloc⟩

theorem VRs.str {L : Lay} {S : Nat → Prop} {w : World} {s : ByteArray} {xs : List AV} {us : List Value} (h : VRs L S w (.str s :: xs) us) : ∃ vs, us = .string s :: vs ∧ VRs L S w xs vs := by
  match us, h.1 with
  | u :: vs, _ =>
    have h0 := h.2 0 _ u rfl rfl
    cases h0
    exact ⟨vs, rfl, by have := h.1; simp at this; exact this, fun j x u hx hu => h.2 (j + 1) x u (by simpa using hx) (by simpa using hu)⟩
theorem VRs.int {L : Lay} {S : Nat → Prop} {w : World} {k : IntKind} {n : Int} {xs : List AV} {us : List Value} (h : VRs L S w (.int k n :: xs) us) : ∃ vs, us = .int k n :: vs ∧ VRs L S w xs vs := by
  match us, h.1 with
  | u :: vs, _ =>
    have h0 := h.2 0 _ u rfl rfl
    cases h0
    exact ⟨vs, rfl, by have := h.1; simp at this; exact this, fun j x u hx hu => h.2 (j + 1) x u (by simpa using hx) (by simpa using hu)⟩
theorem VRs.nil {L : Lay} {S : Nat → Prop} {w : World} {us : List Value} (h : VRs L S w [] us) : us = [] := by
  have := h.1
  simpa using this

/-- A slice of strings that is not empty. -/
theorem VRs.strs {L : Lay} {S : Nat → Prop} {w : World} {ss : List ByteArray} {xs : List AV} {us : List Value} (h0 : ss ≠ []) (h : VRs L S w (.vs ss.length (ss.map .str) :: xs) us) :
    ∃ b o c vs, us = .slice (some ⟨b, o, none⟩) ss.length c :: vs ∧ VRs L S w xs vs ∧ S b ∧ ss.length ≤ c ∧ ∀ (j : Nat) x, ss[j]? = some x → w.cell? ⟨b, o + j, none⟩ = some (.string x) := by
  match us, h.1 with
  | u :: vs, _ =>
    have h1 := h.2 0 _ u rfl rfl
    have ht : VRs L S w xs vs := ⟨by have := h.1; simp at this; exact this, fun j x u hx hu => h.2 (j + 1) x u (by simpa using hx) (by simpa using hu)⟩
    generalize hm : ss.map AV.str = ms at h1
    generalize hn : ss.length = n at h1 ⊢
    cases h1 with
    | vs0 a cap => simp at hm; exact absurd hm h0
    | @vs _ _ b o cap hS hcap us' hl hc hv =>
      refine ⟨b, o, cap, vs, rfl, ht, hS, hcap, fun j x hj => ?_⟩
      have hx : ms[j]? = some (.str x) := by rw [← hm]; simp [hj]
      have hlt : j < us'.length := by rw [hl]; exact (List.getElem?_eq_some_iff.1 hx).1
      have hu : us'[j]? = some us'[j] := List.getElem?_eq_getElem hlt
      have h3 := hv j _ _ hx hu
      rw [hc j _ hu]
      generalize us'[j] = z at h3
      cases h3
      rfl
end Go.AL
namespace Go.AL
open Go

noncomputable def zBodyA (P : Program) (call : Know) (pf : FuncId → Bool) (ann : Ann) (fuel : Nat) (fn : Func) (args : List AV) (h : List AObj) : Option (AV × List AObj) :=
  match fn.body with
  | none => none
  | some c => if args.length ≤ fn.ntmps then
      match zCode P call pf ann fuel c ⟨initZ 0 args .lf, ⟨[], h⟩⟩ with
      | some (.normal, s) | some (.ret, s) => match zRes P fn s with
        | some r => if r.noLoc then some (r, s.H.heap) else none
        | none => none
      | _ => none
    else none

theorem zBodyA_sound {P : Program} {call : Know} {pf : FuncId → Bool} {ann : Ann} {fuel : Nat} (hm : P.follows .mixedOrders = true) (hall : allDsts P = true) (hc : call.ok P) (hp : PureOK P call pf) (hla : ann.la = []) {f : FuncId} {fn : Func} (hf : P.funcs[f]? = some fn)
    {args : List AV} {h : List AObj} {r : AV} {h' : List AObj} (hx : zBodyA P call pf ann fuel fn args h = some (r, h')) : FnQ P f args h (fun r1 h1 => r1 = r ∧ h1 = h') := by
  unfold zBodyA at hx
  have h0 : Sim ⟨initT 0 args, ⟨[], h⟩⟩ ⟨initZ 0 args .lf, ⟨[], h⟩⟩ := ⟨by funext m; rw [initZ_get, Tr.get_lf]; cases lget (initT 0 args) m <;> rfl, rfl⟩
  split at hx
  · cases hx
  · rename_i c hb
    have hd : dstsOK fn.ntmps c = true := by
      have := Array.all_eq_true_iff_forall_mem.1 hall fn (Array.mem_of_getElem? hf)
      simpa [hb] using this
    split at hx
    · rename_i hn
      refine FnQ.intro hf hb hn fun B => ?_
      have fin : ∀ (e : Exit) (z : ZS), (e = .normal ∨ e = .ret) → zCode P call pf ann fuel c ⟨initZ 0 args .lf, ⟨[], h⟩⟩ = some (e, z) → (match zRes P fn z with | some r => if r.noLoc then some (r, z.H.heap) else none | none => none) = some (r, h') →
          Ok P B fn.ntmps c ⟨initT 0 args, ⟨[], h⟩⟩ (retQ P fn fun r1 h1 => r1 = r ∧ h1 = h') := fun e z he hz hx => by
        obtain ⟨s', h1, h2⟩ := zCode_sim _ _ _ _ _ h0 hz
        split at hx
        · rename_i r' hr
          split at hx
          · rename_i hno
            cases hx
            refine (yCode_sound hm hc hp hla c _ _ _ hd h1).mono ?_
            rintro e1 s1 ⟨rfl, rfl⟩
            rcases he with rfl | rfl <;> exact ⟨r, by rw [h2.res]; exact hr, hno, rfl, by rw [h2.2]⟩
          · cases hx
        · cases hx
      split at hx
      · rename_i z hz; exact fin _ z (.inl rfl) hz hx
      · rename_i z hz; exact fin _ z (.inr rfl) hz hx
      · cases hx
    · cases hx

theorem FnQ.of_a {P : Program} {E : EnvR} {d : Nat} {f : FuncId} {fn : Func} {args : List AV} {h : List AObj} {r : AV} (hm : P.follows .mixedOrders = true) (hall : allDsts P = true) (hE : E.toEnv.ok P) (hf : P.funcs[f]? = some fn)
    (hx : gives (zBodyA P (rCall P E d) E.pf {} E.fuel fn args h) r = true) : FnQ P f args h (fun r1 _ => r1 = r) := by
  unfold gives at hx
  split at hx
  · rename_i r' h' hy
    rw [← AV.beq_eq hx]
    exact (zBodyA_sound hm hall (rCall_sound hm hall hE d).1 (rCall_sound hm hall hE d).2 rfl hf hy).mono fun _ _ h => h.1
  · cases hx
end Go.AL
