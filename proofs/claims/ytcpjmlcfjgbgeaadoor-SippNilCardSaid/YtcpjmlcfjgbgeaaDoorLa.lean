/- The abstract logic over any program: values, objects and the relation to the machine. It asks nothing of the program. -/
import Derived.Deep.LoopGhost
import Derived.Laws.AppendOwn
import Derived.Laws.Sem
import Derived.Orders
import Derived.Laws.Entries
import Derived.Deep.AppendSrc
import Derived.Laws.Cells
import Derived.IntWalk
import Derived.Laws.CopyRow
set_option linter.unusedVariables false
set_option linter.unusedSimpArgs false
namespace Go.AL
open Go

/-- Where an object lives: a local object of the function at hand, or one on the abstract heap. -/
inductive Key where
  | loc (k : Nat)
  | hp (i : Nat)
  deriving DecidableEq, Repr

/-- Abstract values. 'vs n xs': a slice of n elements over memory that is never written again, with its cells. 'vp xs': a pointer to such memory. -/
inductive AV where
  | bool (b : Bool)
  | int (k : IntKind) (n : Int)
  | str (s : ByteArray)
  | nil
  | vs (n : Nat) (xs : List AV)
  | vp (xs : List AV)
  | sl (k : Key) (g sz off len : Nat)
  | ptr (k : Key) (g off : Nat)
  | nilp
  | map (k : Key) (g : Nat)
  | nilmap
  | fn (f : FuncId) (first cap : List AV)
  | agg (xs : List AV)
  | tup (xs : List AV)
  | undef
  deriving Inhabited

/-- The cells of a value that is written into memory. -/
def AV.cells : AV → List AV
  | .agg xs => xs
  | v => [v]

/-- Is it surely one cell's value? -/
def AV.one : AV → Bool
  | .agg _ | .tup _ | .undef => false
  | _ => true

/-- An object's place: its block (none: no memory yet), its generation, how many cells the block has. -/
structure Reg where
  blk : Option Nat
  gen : Nat
  tot : Nat

abbrev Lay := Key → Option Reg

/-- The layout of the heap alone. -/
def Lay.hpOnly (L : Lay) : Lay
  | .loc _ => none
  | .hp i => L (.hp i)

inductive VR (L : Lay) (S : Nat → Prop) (w : World) : AV → Value → Prop
  | bool (b : Bool) : VR L S w (.bool b) (.bool b)
  | int (k : IntKind) (n : Int) : VR L S w (.int k n) (.int k n)
  | str (s : ByteArray) : VR L S w (.str s) (.string s)
  | nil : VR L S w .nil (.slice none 0 0)
  | vs0 (a : Option Addr) (cap : Nat) : VR L S w (.vs 0 []) (.slice a 0 cap)
  | vs {n : Nat} {xs : List AV} {b o cap : Nat} (hS : S b) (hcap : n ≤ cap) (us : List Value) (hl : us.length = xs.length)
      (hc : ∀ (j : Nat) (u : Value), us[j]? = some u → w.cell? ⟨b, o + j, none⟩ = some u)
      (hv : ∀ (j : Nat) (x : AV) (u : Value), xs[j]? = some x → us[j]? = some u → VR L S w x u) : VR L S w (.vs n xs) (.slice (some ⟨b, o, none⟩) n cap)
  | vp {xs : List AV} {b o : Nat} (hS : S b) (us : List Value) (hl : us.length = xs.length)
      (hc : ∀ (j : Nat) (u : Value), us[j]? = some u → w.cell? ⟨b, o + j, none⟩ = some u)
      (hv : ∀ (j : Nat) (x : AV) (u : Value), xs[j]? = some x → us[j]? = some u → VR L S w x u) : VR L S w (.vp xs) (.pointer (some ⟨b, o, none⟩))
  | slStale {k : Key} {g sz off len : Nat} {r : Reg} (hL : L k = some r) (hg : g < r.gen) (a : Option Addr) (n c : Nat) : VR L S w (.sl k g sz off len) (.slice a n c)
  | sl {k : Key} {g sz off len : Nat} {r : Reg} {b cap : Nat} (hL : L k = some r) (hg : r.gen = g) (hb : r.blk = some b) (hcap : off + cap * sz ≤ r.tot) (hlen : len ≤ cap) :
      VR L S w (.sl k g sz off len) (.slice (some ⟨b, off, none⟩) len cap)
  | slEnd {k : Key} {g sz off : Nat} {r : Reg} (hL : L k = some r) (hg : r.gen = g) (hoff : 0 < off) (a : Option Addr) : VR L S w (.sl k g sz off 0) (.slice a 0 0)
  | slNone {k : Key} {g sz : Nat} {r : Reg} (hL : L k = some r) (hg : r.gen = g) (hb : r.blk = none) : VR L S w (.sl k g sz 0 0) (.slice none 0 0)
  | ptrStale {k : Key} {g off : Nat} {r : Reg} (hL : L k = some r) (hg : g < r.gen) (a : Option Addr) : VR L S w (.ptr k g off) (.pointer a)
  | ptr {k : Key} {g off : Nat} {r : Reg} {b : Nat} (hL : L k = some r) (hg : r.gen = g) (hb : r.blk = some b) : VR L S w (.ptr k g off) (.pointer (some ⟨b, off, none⟩))
  | nilp : VR L S w .nilp (.pointer none)
  | mapStale {k : Key} {g : Nat} {r : Reg} (hL : L k = some r) (hg : g < r.gen) (b : Option Nat) : VR L S w (.map k g) (.map b)
  | map {k : Key} {g : Nat} {r : Reg} {b : Nat} (hL : L k = some r) (hg : r.gen = g) (hb : r.blk = some b) : VR L S w (.map k g) (.map (some b))
  | nilmap : VR L S w .nilmap (.map none)
  | fn {f : FuncId} {first cap : List AV} (us ws : List Value) (hl : us.length = first.length) (hl' : ws.length = cap.length)
      (hv : ∀ (j : Nat) (x : AV) (u : Value), first[j]? = some x → us[j]? = some u → VR L S w x u)
      (hv' : ∀ (j : Nat) (x : AV) (u : Value), cap[j]? = some x → ws[j]? = some u → VR L S w x u) : VR L S w (.fn f first cap) (.func (.func f) us.toArray ws.toArray)
  | agg {xs : List AV} (us : List Value) (hl : us.length = xs.length) (hv : ∀ (j : Nat) (x : AV) (u : Value), xs[j]? = some x → us[j]? = some u → VR L S w x u) :
      VR L S w (.agg xs) (.agg us.toArray)
  | tup {xs : List AV} (us : List Value) (hl : us.length = xs.length) (hv : ∀ (j : Nat) (x : AV) (u : Value), xs[j]? = some x → us[j]? = some u → VR L S w x u) :
      VR L S w (.tup xs) (.tuple us.toArray)
  | undef (u : Value) : VR L S w .undef u

/-- Lists of values, one by one. -/
def VRs (L : Lay) (S : Nat → Prop) (w : World) (xs : List AV) (us : List Value) : Prop :=
  us.length = xs.length ∧ ∀ (j : Nat) (x : AV) (u : Value), xs[j]? = some x → us[j]? = some u → VR L S w x u

/-- A layout grows: what had its place keeps it, or has a newer generation. -/
def Lay.le (L L' : Lay) : Prop := ∀ k r, L k = some r → ∃ r', L' k = some r' ∧ r.gen ≤ r'.gen ∧ (r'.gen = r.gen → r' = r)

theorem Lay.le_refl (L : Lay) : L.le L := fun k r h => ⟨r, h, Nat.le_refl _, fun _ => rfl⟩
theorem Lay.le_trans {L L' L'' : Lay} (h : L.le L') (h' : L'.le L'') : L.le L'' := fun k r hr => by
  obtain ⟨r', h1, h2, h3⟩ := h k r hr
  obtain ⟨r'', h4, h5, h6⟩ := h' k r' h1
  refine ⟨r'', h4, Nat.le_trans h2 h5, fun e => ?_⟩
  have e1 : r'.gen = r.gen := by omega
  have e2 : r''.gen = r'.gen := by omega
  rw [h6 e2, h3 e1]

/-- The stable cells stay. -/
def Kept (S : Nat → Prop) (w w' : World) : Prop := ∀ b, S b → w'.heap[b]? = w.heap[b]?

theorem cell?_of_heap {w w' : World} {b o : Nat} (h : w'.heap[b]? = w.heap[b]?) : w'.cell? ⟨b, o, none⟩ = w.cell? ⟨b, o, none⟩ := by simp [World.cell?, h]

theorem VR.mono {L L' : Lay} {S S' : Nat → Prop} {w w' : World} (hL : L.le L') (hS : ∀ b, S b → S' b) (hw : Kept S w w') {x : AV} {u : Value} (h : VR L S w x u) : VR L' S' w' x u := by
  induction h with
  | bool b => exact .bool b
  | int k n => exact .int k n
  | str s => exact .str s
  | nil => exact .nil
  | vs0 a cap => exact .vs0 a cap
  | vs hSb hcap us hl hc hv ih => exact .vs (hS _ hSb) hcap us hl (fun j u hu => (cell?_of_heap (hw _ hSb)).trans (hc j u hu)) ih
  | vp hSb us hl hc hv ih => exact .vp (hS _ hSb) us hl (fun j u hu => (cell?_of_heap (hw _ hSb)).trans (hc j u hu)) ih
  | slStale h1 h2 a n c =>
    obtain ⟨r', h3, h4, _⟩ := hL _ _ h1
    exact .slStale h3 (by omega) a n c
  | @sl k g sz off len r b cap h1 h2 h3 h4 h5 =>
    obtain ⟨r', h6, h7, h8⟩ := hL _ _ h1
    by_cases e : r'.gen = r.gen
    · rw [h8 e] at h6; exact .sl h6 h2 h3 h4 h5
    · exact .slStale h6 (by omega) _ _ _
  | @slEnd k g sz off r h1 h2 h3 a =>
    obtain ⟨r', h6, h7, h8⟩ := hL _ _ h1
    by_cases e : r'.gen = r.gen
    · rw [h8 e] at h6; exact .slEnd h6 h2 h3 a
    · exact .slStale h6 (by omega) _ _ _
  | @slNone k g sz r h1 h2 h3 =>
    obtain ⟨r', h6, h7, h8⟩ := hL _ _ h1
    by_cases e : r'.gen = r.gen
    · rw [h8 e] at h6; exact .slNone h6 h2 h3
    · exact .slStale h6 (by omega) _ _ _
  | ptrStale h1 h2 a =>
    obtain ⟨r', h3, h4, _⟩ := hL _ _ h1
    exact .ptrStale h3 (by omega) a
  | @ptr k g off r b h1 h2 h3 =>
    obtain ⟨r', h6, h7, h8⟩ := hL _ _ h1
    by_cases e : r'.gen = r.gen
    · rw [h8 e] at h6; exact .ptr h6 h2 h3
    · exact .ptrStale h6 (by omega) _
  | nilp => exact .nilp
  | mapStale h1 h2 a =>
    obtain ⟨r', h3, h4, _⟩ := hL _ _ h1
    exact .mapStale h3 (by omega) a
  | @map k g r b h1 h2 h3 =>
    obtain ⟨r', h6, h7, h8⟩ := hL _ _ h1
    by_cases e : r'.gen = r.gen
    · rw [h8 e] at h6; exact .map h6 h2 h3
    · exact .mapStale h6 (by omega) _
  | nilmap => exact .nilmap
  | fn us ws hl hl' hv hv' ih ih' => exact .fn us ws hl hl' ih ih'
  | agg us hl hv ih => exact .agg us hl ih
  | tup us hl hv ih => exact .tup us hl ih
  | undef u => exact .undef u

-- No local object is named in a value.
mutual
def AV.noLoc : AV → Bool
  | .vs _ xs | .vp xs | .agg xs | .tup xs => noLocs xs
  | .sl k _ _ _ _ | .ptr k _ _ | .map k _ => match k with | .loc _ => false | .hp _ => true
  | .fn _ xs ys => noLocs xs && noLocs ys
  | _ => true
def noLocs : List AV → Bool
  | [] => true
  | x :: xs => x.noLoc && noLocs xs
end

theorem noLocs_eq (xs : List AV) : noLocs xs = xs.all AV.noLoc := by
  induction xs with
  | nil => rfl
  | cons x xs ih => simp [noLocs, ih]
theorem noLocs_get {xs : List AV} (h : noLocs xs = true) {j : Nat} {x : AV} (hx : xs[j]? = some x) : x.noLoc = true := by
  rw [noLocs_eq, List.all_eq_true] at h
  exact h x (List.mem_of_getElem? hx)
theorem noLocs_of {xs : List AV} (h : ∀ x ∈ xs, x.noLoc = true) : noLocs xs = true := by rw [noLocs_eq, List.all_eq_true]; exact h
theorem noLocs_append (xs ys : List AV) : noLocs (xs ++ ys) = (noLocs xs && noLocs ys) := by simp [noLocs_eq]

theorem VR.of_hp {L : Lay} {S : Nat → Prop} {w : World} {x : AV} {u : Value} (h : VR L.hpOnly S w x u) : VR L S w x u := by
  induction h with
  | bool b => exact .bool b
  | int k n => exact .int k n
  | str s => exact .str s
  | nil => exact .nil
  | vs0 a cap => exact .vs0 a cap
  | vs hSb hcap us hl hc hv ih => exact .vs hSb hcap us hl hc ih
  | vp hSb us hl hc hv ih => exact .vp hSb us hl hc ih
  | @slStale k g sz off len r h1 h2 a n c => cases k <;> simp [Lay.hpOnly] at h1; exact .slStale h1 h2 a n c
  | @sl k g sz off len r b cap h1 h2 h3 h4 h5 => cases k <;> simp [Lay.hpOnly] at h1; exact .sl h1 h2 h3 h4 h5
  | @slEnd k g sz off r h1 h2 h3 a => cases k <;> simp [Lay.hpOnly] at h1; exact .slEnd h1 h2 h3 a
  | @slNone k g sz r h1 h2 h3 => cases k <;> simp [Lay.hpOnly] at h1; exact .slNone h1 h2 h3
  | @ptrStale k g off r h1 h2 a => cases k <;> simp [Lay.hpOnly] at h1; exact .ptrStale h1 h2 a
  | @ptr k g off r b h1 h2 h3 => cases k <;> simp [Lay.hpOnly] at h1; exact .ptr h1 h2 h3
  | nilp => exact .nilp
  | @mapStale k g r h1 h2 a => cases k <;> simp [Lay.hpOnly] at h1; exact .mapStale h1 h2 a
  | @map k g r b h1 h2 h3 => cases k <;> simp [Lay.hpOnly] at h1; exact .map h1 h2 h3
  | nilmap => exact .nilmap
  | fn us ws hl hl' hv hv' ih ih' => exact .fn us ws hl hl' ih ih'
  | agg us hl hv ih => exact .agg us hl ih
  | tup us hl hv ih => exact .tup us hl ih
  | undef u => exact .undef u

theorem VR.to_hp {L : Lay} {S : Nat → Prop} {w : World} {x : AV} {u : Value} (h : VR L S w x u) (hx : x.noLoc = true) : VR L.hpOnly S w x u := by
  induction h with
  | bool b => exact .bool b
  | int k n => exact .int k n
  | str s => exact .str s
  | nil => exact .nil
  | vs0 a cap => exact .vs0 a cap
  | vs hSb hcap us hl hc hv ih => exact .vs hSb hcap us hl hc fun j x u h1 h2 => ih j x u h1 h2 (noLocs_get (by simpa [AV.noLoc] using hx) h1)
  | vp hSb us hl hc hv ih => exact .vp hSb us hl hc fun j x u h1 h2 => ih j x u h1 h2 (noLocs_get (by simpa [AV.noLoc] using hx) h1)
  | @slStale k g sz off len r h1 h2 a n c => cases k <;> simp [AV.noLoc] at hx; exact .slStale (show L.hpOnly (.hp _) = some r from h1) h2 a n c
  | @sl k g sz off len r b cap h1 h2 h3 h4 h5 => cases k <;> simp [AV.noLoc] at hx; exact .sl (show L.hpOnly (.hp _) = some r from h1) h2 h3 h4 h5
  | @slEnd k g sz off r h1 h2 h3 a => cases k <;> simp [AV.noLoc] at hx; exact .slEnd (show L.hpOnly (.hp _) = some r from h1) h2 h3 a
  | @slNone k g sz r h1 h2 h3 => cases k <;> simp [AV.noLoc] at hx; exact .slNone (show L.hpOnly (.hp _) = some r from h1) h2 h3
  | @ptrStale k g off r h1 h2 a => cases k <;> simp [AV.noLoc] at hx; exact .ptrStale (show L.hpOnly (.hp _) = some r from h1) h2 a
  | @ptr k g off r b h1 h2 h3 => cases k <;> simp [AV.noLoc] at hx; exact .ptr (show L.hpOnly (.hp _) = some r from h1) h2 h3
  | nilp => exact .nilp
  | @mapStale k g r h1 h2 a => cases k <;> simp [AV.noLoc] at hx; exact .mapStale (show L.hpOnly (.hp _) = some r from h1) h2 a
  | @map k g r b h1 h2 h3 => cases k <;> simp [AV.noLoc] at hx; exact .map (show L.hpOnly (.hp _) = some r from h1) h2 h3
  | nilmap => exact .nilmap
  | fn us ws hl hl' hv hv' ih ih' =>
    simp only [AV.noLoc, Bool.and_eq_true] at hx
    exact .fn us ws hl hl' (fun j x u h1 h2 => ih j x u h1 h2 (noLocs_get hx.1 h1)) fun j x u h1 h2 => ih' j x u h1 h2 (noLocs_get hx.2 h1)
  | agg us hl hv ih => exact .agg us hl fun j x u h1 h2 => ih j x u h1 h2 (noLocs_get (by simpa [AV.noLoc] using hx) h1)
  | tup us hl hv ih => exact .tup us hl fun j x u h1 h2 => ih j x u h1 h2 (noLocs_get (by simpa [AV.noLoc] using hx) h1)
  | undef u => exact .undef u

/-- One cell's value is one cell's value. -/
theorem VR.one {L : Lay} {S : Nat → Prop} {w : World} {x : AV} {u : Value} (h : VR L S w x u) (hx : x.one = true) : u.oneCell' = true := by
  cases h <;> first | rfl | simp [AV.one] at hx

theorem VRs.mono {L L' : Lay} {S S' : Nat → Prop} {w w' : World} (hL : L.le L') (hS : ∀ b, S b → S' b) (hw : Kept S w w') {xs : List AV} {us : List Value} (h : VRs L S w xs us) : VRs L' S' w' xs us :=
  ⟨h.1, fun j x u h1 h2 => (h.2 j x u h1 h2).mono hL hS hw⟩

/-- The cells of a value, one by one. -/
theorem VR.cells {L : Lay} {S : Nat → Prop} {w : World} {x : AV} {u : Value} (h : VR L S w x u) (hx : x.cells.all AV.one = true) :
    VRs L S w x.cells u.cells.toList ∧ ∀ c ∈ u.cells.toList, c.oneCell' = true := by
  have single : ∀ {x : AV} {u : Value}, VR L S w x u → x.one = true → VRs L S w [x] [u] ∧ ∀ c ∈ [u], c.oneCell' = true := by
    intro x u h hx
    refine ⟨⟨rfl, fun j y v h1 h2 => ?_⟩, fun c hc => ?_⟩
    · match j with
      | 0 => simp at h1 h2; subst h1; subst h2; exact h
      | j + 1 => simp at h1
    · simp at hc; subst hc; exact h.one hx
  cases x with
  | agg xs =>
    cases h with
    | agg us hl hv =>
      simp only [AV.cells, Value.cells]
      refine ⟨⟨by simpa using hl, fun j y v h1 h2 => hv j y v h1 (by simpa using h2)⟩, fun c hc => ?_⟩
      obtain ⟨j, hj⟩ := List.mem_iff_getElem?.1 hc
      have hlt : j < xs.length := by
        have := (List.getElem?_eq_some_iff.1 hj).1; omega
      have hx' : (xs[j]).one = true := by
        have := List.all_eq_true.1 hx (xs[j]) (List.getElem_mem hlt)
        exact this
      exact (hv j _ c (List.getElem?_eq_getElem hlt) (by simpa using hj)).one hx'
  | _ =>
    have hx1 : AV.one _ = true := List.all_eq_true.1 hx _ (List.mem_singleton.2 rfl)
    have hu : u.cells.toList = [u] := by
      have h1 := h.one hx1
      cases u <;> first | rfl | simp [Value.oneCell'] at h1
    rw [hu]
    exact single h hx1
end Go.AL
namespace Go.AL
open Go

inductive AObj where
  | cells (g : Nat) (e : TypeId) (xs : List AV)
  | map (g : Nat) (es : List (AV × AV))
  deriving Inhabited

def AObj.gen : AObj → Nat
  | .cells g _ _ => g
  | .map g _ => g

structure AH where
  locs : List (Nat × AObj)
  heap : List AObj

def lget {α : Type} : List (Nat × α) → Nat → Option α
  | [], _ => none
  | p :: r, t => bif Nat.beq p.1 t then some p.2 else lget r t

def lset {α : Type} : List (Nat × α) → Nat → α → List (Nat × α)
  | [], t, v => [(t, v)]
  | p :: r, t, v => bif Nat.beq p.1 t then (t, v) :: r else p :: lset r t v

theorem lget_cons {α : Type} (k : Nat) (o : α) (r : List (Nat × α)) (t : Nat) : lget ((k, o) :: r) t = if k = t then some o else lget r t := by
  simp only [lget]
  by_cases h : k = t
  · subst h; simp
  · have : Nat.beq k t = false := by
      cases hb : Nat.beq k t with
      | false => rfl
      | true => exact absurd (Nat.eq_of_beq_eq_true hb) h
    simp [h, this]
theorem lset_cons {α : Type} (k : Nat) (o : α) (r : List (Nat × α)) (t : Nat) (v : α) : lset ((k, o) :: r) t v = if k = t then (t, v) :: r else (k, o) :: lset r t v := by
  simp only [lset]
  by_cases h : k = t
  · subst h; simp
  · have : Nat.beq k t = false := by
      cases hb : Nat.beq k t with
      | false => rfl
      | true => exact absurd (Nat.eq_of_beq_eq_true hb) h
    simp [h, this]
theorem lget_nil {α : Type} (t : Nat) : lget ([] : List (Nat × α)) t = none := rfl

theorem lget_lset {α : Type} (l : List (Nat × α)) (t u : Nat) (v : α) : lget (lset l t v) u = if u = t then some v else lget l u := by
  induction l with
  | nil => simp only [lset, lget_cons, lget_nil]; by_cases h : t = u <;> simp [h, eq_comm]
  | cons p l ih =>
    obtain ⟨k, o⟩ := p
    simp only [lset_cons]
    by_cases h : k = t
    · subst h
      simp only [if_true, lget_cons]
      by_cases h2 : k = u
      · simp [h2]
      · simp [h2, Ne.symm h2]
    · simp only [h, if_false, lget_cons, ih]
      by_cases h2 : k = u
      · subst h2; simp [h]
      · simp [h2]

def AH.get (H : AH) : Key → Option AObj
  | .loc κ => lget H.locs κ
  | .hp i => H.heap[i]?

/-- An object in its place. -/
inductive OR (L : Lay) (S : Nat → Prop) (w : World) : Reg → AObj → Prop
  | none {r : Reg} {g : Nat} {e : TypeId} (hb : r.blk = none) (hg : r.gen = g) (ht : r.tot = 0) : OR L S w r (.cells g e [])
  | cells {r : Reg} {g : Nat} {e : TypeId} {xs : List AV} {b : Nat} {cur : Array Value} (hb : r.blk = some b) (hg : r.gen = g) (hw : w.heap[b]? = some (.cells cur e (0, 0)))
      (ht : cur.size = r.tot) (hl : xs.length ≤ cur.size) (hv : ∀ (j : Nat) (x : AV), xs[j]? = some x → ∃ u, cur[j]? = some u ∧ VR L S w x u) : OR L S w r (.cells g e xs)
  | map {r : Reg} {g : Nat} {es : List (AV × AV)} {b : Nat} {ents : Array MapEntry} {clock : Nat} (hb : r.blk = some b) (hg : r.gen = g) (hw : w.heap[b]? = some (.map ents clock))
      (hl : ents.size = es.length) (hk : ∀ (j : Nat) (p : AV × AV) (m : MapEntry), es[j]? = some p → ents[j]? = some m → VR L S w p.1 m.key)
      (hv : ∀ (j : Nat) (p : AV × AV) (m : MapEntry), es[j]? = some p → ents[j]? = some m → VR L S w p.2 m.val) : OR L S w r (.map g es)

theorem OR.gen {L : Lay} {S : Nat → Prop} {w : World} {r : Reg} {o : AObj} (h : OR L S w r o) : r.gen = o.gen := by cases h <;> assumption

theorem OR.mono {L L' : Lay} {S S' : Nat → Prop} {w w' : World} {r : Reg} {o : AObj} (h : OR L S w r o) (hL : L.le L') (hS : ∀ b, S b → S' b) (hw : Kept S w w')
    (hb : ∀ b, r.blk = some b → w'.heap[b]? = w.heap[b]?) : OR L' S' w' r o := by
  cases h with
  | none h1 h2 h3 => exact .none h1 h2 h3
  | cells h1 h2 h3 h4 h5 h6 => exact .cells h1 h2 ((hb _ h1).trans h3) h4 h5 fun j x hx => let ⟨u, h7, h8⟩ := h6 j x hx; ⟨u, h7, h8.mono hL hS hw⟩
  | map h1 h2 h3 h4 h5 h6 => exact .map h1 h2 ((hb _ h1).trans h3) h4 (fun j p m a b => (h5 j p m a b).mono hL hS hw) fun j p m a b => (h6 j p m a b).mono hL hS hw

/-- What a function began with: the layout and the stable blocks, the world, and the blocks that may be written. -/
structure Base where
  L : Lay
  S : Nat → Prop
  w : World
  wr : Nat → Prop

def Lay.at (L : Lay) : Key → Lay
  | .loc _ => L
  | .hp _ => L.hpOnly

structure HR (B : Base) (L : Lay) (S : Nat → Prop) (H : AH) (w : World) : Prop where
  obj : ∀ k o, H.get k = some o → ∃ r, L k = some r ∧ OR (L.at k) S w r o
  dom : ∀ k r, L k = some r → H.get k ≠ none
  inj : ∀ k1 k2 r1 r2 b, L k1 = some r1 → L k2 = some r2 → r1.blk = some b → r2.blk = some b → k1 = k2
  lt : ∀ k r b, L k = some r → r.blk = some b → b < w.heap.size
  stab : ∀ k r b, L k = some r → r.blk = some b → ¬ S b
  own : ∀ k r b, L k = some r → r.blk = some b → B.wr b ∨ B.w.heap.size ≤ b
  Slt : ∀ b, S b → b < w.heap.size
  Sb : ∀ b, S b → B.S b ∨ B.wr b ∨ B.w.heap.size ≤ b
  S0 : ∀ b, B.S b → S b
  os : w.os = B.w.os
  tape : w.tape = B.w.tape
  output : w.output = B.w.output
  size : B.w.heap.size ≤ w.heap.size
  keep : ∀ b, b < B.w.heap.size → ¬ B.wr b → w.heap[b]? = B.w.heap[b]?
  lay : ∀ i r, B.L (.hp i) = some r → ∃ r', L (.hp i) = some r' ∧ r.gen ≤ r'.gen ∧ (r'.gen = r.gen → r' = r)

def Lay.set (L : Lay) (k : Key) (r : Reg) : Lay := fun k' => if k' = k then some r else L k'

theorem Lay.set_same (L : Lay) (k : Key) (r : Reg) : L.set k r k = some r := by simp [Lay.set]
theorem Lay.set_other (L : Lay) {k k' : Key} (r : Reg) (h : k' ≠ k) : L.set k r k' = L k' := by simp [Lay.set, h]

theorem Lay.le_set {L : Lay} {k : Key} {r' : Reg} (h : ∀ r, L k = some r → r.gen ≤ r'.gen ∧ (r'.gen = r.gen → r' = r)) : L.le (L.set k r') := by
  intro k' r hr
  by_cases e : k' = k
  · subst e; exact ⟨r', Lay.set_same .., (h r hr).1, (h r hr).2⟩
  · exact ⟨r, by rw [Lay.set_other _ _ e]; exact hr, Nat.le_refl _, fun _ => rfl⟩

theorem Lay.hpOnly_le {L L' : Lay} (h : L.le L') : L.hpOnly.le L'.hpOnly := by
  intro k r hr
  cases k with
  | loc κ => simp [Lay.hpOnly] at hr
  | hp i => exact h (.hp i) r hr

theorem Lay.at_le {L L' : Lay} (h : L.le L') (k : Key) : (L.at k).le (L'.at k) := by
  cases k
  · exact h
  · exact Lay.hpOnly_le h

/-- One object turns (or is new); all other blocks stay. -/
theorem HR.upd {B : Base} {L : Lay} {S : Nat → Prop} {H H' : AH} {w w' : World} (h : HR B L S H w) {k : Key} {r' : Reg} {o' : AObj}
    (hos : w'.os = w.os) (htape : w'.tape = w.tape) (hout : w'.output = w.output) (hsize : w.heap.size ≤ w'.heap.size)
    (hkeep : ∀ b, b < w.heap.size → (∀ r, L k = some r → r.blk ≠ some b) → w'.heap[b]? = w.heap[b]?)
    (hL : ∀ r, L k = some r → r.gen ≤ r'.gen ∧ (r'.gen = r.gen → r' = r))
    (hblk : ∀ b, r'.blk = some b → b < w'.heap.size ∧ (w.heap.size ≤ b ∨ ∃ r, L k = some r ∧ r.blk = some b))
    (hor : OR ((L.set k r').at k) S w' r' o')
    (hget : ∀ k', H'.get k' = if k' = k then some o' else H.get k') : HR B (L.set k r') S H' w' ∧ L.le (L.set k r') ∧ Kept S w w' := by
  have hle := Lay.le_set hL
  have hK : Kept S w w' := fun b hb => hkeep b (h.Slt b hb) fun r hr e => h.stab k r b hr e hb
  refine ⟨?_, hle, hK⟩
  have fresh : ∀ k1 r1 b, L k1 = some r1 → r1.blk = some b → r'.blk = some b → k1 = k := by
    intro k1 r1 b h1 h2 h3
    rcases (hblk b h3).2 with h4 | ⟨r, h4, h5⟩
    · have := h.lt k1 r1 b h1 h2; omega
    · exact h.inj k1 k r1 r b h1 h4 h2 h5
  refine { obj := ?_, dom := ?_, inj := ?_, lt := ?_, stab := ?_, own := ?_, Slt := fun b hb => Nat.lt_of_lt_of_le (h.Slt b hb) hsize, Sb := h.Sb, S0 := h.S0,
           os := hos.trans h.os, tape := htape.trans h.tape, output := hout.trans h.output, size := Nat.le_trans h.size hsize, keep := ?_, lay := ?_ }
  · intro k1 o ho
    rw [hget] at ho
    by_cases e : k1 = k
    · subst e; simp only [if_true] at ho; cases ho
      exact ⟨r', Lay.set_same .., hor⟩
    · simp only [e, if_false] at ho
      obtain ⟨r, hr, hor1⟩ := h.obj k1 o ho
      refine ⟨r, by rw [Lay.set_other _ _ e]; exact hr, hor1.mono (Lay.at_le hle k1) (fun _ h => h) hK fun b hb => ?_⟩
      exact hkeep b (h.lt k1 r b hr hb) fun r2 hr2 e2 => e (h.inj k1 k r r2 b hr hr2 hb e2)
  · intro k1 r hr
    rw [hget]
    by_cases e : k1 = k
    · simp [e]
    · simp only [e, if_false]; rw [Lay.set_other _ _ e] at hr; exact h.dom k1 r hr
  · intro k1 k2 r1 r2 b h1 h2 h3 h4
    by_cases e1 : k1 = k <;> by_cases e2 : k2 = k
    · rw [e1, e2]
    · subst e1; rw [Lay.set_same] at h1; cases h1; rw [Lay.set_other _ _ e2] at h2; exact (fresh k2 r2 b h2 h4 h3).symm
    · subst e2; rw [Lay.set_same] at h2; cases h2; rw [Lay.set_other _ _ e1] at h1; exact fresh k1 r1 b h1 h3 h4
    · rw [Lay.set_other _ _ e1] at h1; rw [Lay.set_other _ _ e2] at h2; exact h.inj k1 k2 r1 r2 b h1 h2 h3 h4
  · intro k1 r b h1 h2
    by_cases e : k1 = k
    · subst e; rw [Lay.set_same] at h1; cases h1; exact (hblk b h2).1
    · rw [Lay.set_other _ _ e] at h1; exact Nat.lt_of_lt_of_le (h.lt k1 r b h1 h2) hsize
  · intro k1 r b h1 h2 hS
    by_cases e : k1 = k
    · subst e; rw [Lay.set_same] at h1; cases h1
      rcases (hblk b h2).2 with h4 | ⟨r, h4, h5⟩
      · have := h.Slt b hS; omega
      · exact h.stab k1 r b h4 h5 hS
    · rw [Lay.set_other _ _ e] at h1; exact h.stab k1 r b h1 h2 hS
  · intro k1 r b h1 h2
    by_cases e : k1 = k
    · subst e; rw [Lay.set_same] at h1; cases h1
      rcases (hblk b h2).2 with h4 | ⟨r, h4, h5⟩
      · exact .inr (Nat.le_trans h.size h4)
      · exact h.own k1 r b h4 h5
    · rw [Lay.set_other _ _ e] at h1; exact h.own k1 r b h1 h2
  · intro b hb hnw
    have h1 := h.keep b hb hnw
    rw [← h1]
    refine hkeep b (Nat.lt_of_lt_of_le hb h.size) fun r hr e => ?_
    rcases h.own k r b hr e with h2 | h2
    · exact hnw h2
    · omega
  · intro i r hr
    obtain ⟨r1, h1, h2, h3⟩ := h.lay i r hr
    obtain ⟨r2, h4, h5, h6⟩ := hle (.hp i) r1 h1
    refine ⟨r2, h4, by omega, fun e => ?_⟩
    have e1 : r1.gen = r.gen := by omega
    have e2 : r2.gen = r1.gen := by omega
    rw [h6 e2, h3 e1]

/-- New blocks that are stable from the first; nothing else turns (draws may have been made). -/
theorem HR.grow {B : Base} {L : Lay} {S : Nat → Prop} {H : AH} {w w' : World} (h : HR B L S H w)
    (hos : w'.os = w.os) (htape : w'.tape = w.tape) (hout : w'.output = w.output) (hsize : w.heap.size ≤ w'.heap.size)
    (hkeep : ∀ b, b < w.heap.size → w'.heap[b]? = w.heap[b]?) (N : Nat → Prop) (hN : ∀ b, N b → w.heap.size ≤ b ∧ b < w'.heap.size) :
    HR B L (fun b => S b ∨ N b) H w' ∧ Kept S w w' := by
  have hK : Kept S w w' := fun b hb => hkeep b (h.Slt b hb)
  refine ⟨{ obj := ?_, dom := h.dom, inj := h.inj, lt := (fun k r b h1 h2 => Nat.lt_of_lt_of_le (h.lt k r b h1 h2) hsize), stab := ?_, own := h.own, Slt := ?_, Sb := ?_, S0 := (fun b hb => Or.inl (h.S0 b hb)), os := hos.trans h.os, tape := htape.trans h.tape, output := hout.trans h.output, size := Nat.le_trans h.size hsize, keep := ?_, lay := h.lay }, hK⟩
  · intro k o ho
    obtain ⟨r, hr, hor⟩ := h.obj k o ho
    exact ⟨r, hr, hor.mono (Lay.le_refl _) (fun _ h => .inl h) hK fun b hb => hkeep b (h.lt k r b hr hb)⟩
  · intro k r b h1 h2 hS
    rcases hS with hS | hS
    · exact h.stab k r b h1 h2 hS
    · have := h.lt k r b h1 h2; have := (hN b hS).1; omega
  · intro b hb
    rcases hb with hb | hb
    · exact Nat.lt_of_lt_of_le (h.Slt b hb) hsize
    · exact (hN b hb).2
  · intro b hb
    rcases hb with hb | hb
    · exact h.Sb b hb
    · exact .inr (.inr (Nat.le_trans h.size (hN b hb).1))
  · intro b hb hnw
    rw [← h.keep b hb hnw]
    exact hkeep b (Nat.lt_of_lt_of_le hb h.size)

/-- The whole state: temporaries, and the abstract heap. -/
structure AState where
  tmps : List (Nat × AV)
  H : AH

def TR (L : Lay) (S : Nat → Prop) (w : World) (T : Nat → Option AV) (a : Act) : Prop := ∀ t v, T t = some v → t < a.tmps.size ∧ VR L S w v (a.tmps.getD t undef)

theorem TR.mono {L L' : Lay} {S S' : Nat → Prop} {w w' : World} {T : Nat → Option AV} {a : Act} (h : TR L S w T a) (hL : L.le L') (hS : ∀ b, S b → S' b) (hw : Kept S w w') : TR L' S' w' T a :=
  fun t v hv => ⟨(h t v hv).1, (h t v hv).2.mono hL hS hw⟩

/-- The machine's frame and world, and an abstract state. -/
def Rel (B : Base) (s : AState) (a : Act) (w : World) : Prop := a.defers = [] ∧ ∃ L S, HR B L S s.H w ∧ TR L S w (lget s.tmps) a

/-- The abstract value of a constant. -/
def constAV : Value → AV
  | .bool b => .bool b
  | .int k n => .int k n
  | .string s => .str s
  | .pointer none => .nilp
  | .slice none 0 0 => .nil
  | .map none => .nilmap
  | _ => .undef

theorem VR.const (L : Lay) (S : Nat → Prop) (w : World) (v : Value) : VR L S w (constAV v) v := by
  unfold constAV
  split <;> first | exact .bool _ | exact .int _ _ | exact .str _ | exact .nilp | exact .nil | exact .nilmap | exact .undef _

def avalF (T : Nat → Option AV) : Operand → AV
  | .tmp t => (T t).getD .undef
  | .const v => constAV v
  | .global _ => .undef
  | .func f => .fn f [] []

def aval (ts : List (Nat × AV)) : Operand → AV
  | .tmp t => (lget ts t).getD .undef
  | .const v => constAV v
  | .global _ => .undef
  | .func f => .fn f [] []

theorem aval_eq (ts : List (Nat × AV)) : aval ts = avalF (lget ts) := by funext x; cases x <;> rfl

theorem VR.aval {L : Lay} {S : Nat → Prop} {w : World} {T : Nat → Option AV} {a : Act} (h : TR L S w T a) (x : Operand) : VR L S w (avalF T x) (a.eval x) := by
  cases x with
  | tmp t =>
    simp only [AL.avalF, Act.eval]
    cases ht : T t with
    | none => exact .undef _
    | some v => exact (h t v ht).2
  | const v => exact .const _ _ _ v
  | global g => exact .undef _
  | func f => exact .fn [] [] rfl rfl (by simp) (by simp)

def updF (T : Nat → Option AV) (d : Option Tmp) (v : AV) : Nat → Option AV := fun t => if d = some t then some v else T t

def tput (ts : List (Nat × AV)) (d : Option Tmp) (v : AV) : List (Nat × AV) :=
  match d with
  | some d => lset ts d v
  | none => ts

end Go.AL
namespace Go.AL
open Go

/-- Which temporaries get a heap object, which a local array. -/
structure Ann where
  hs : List Nat := []
  la : List Nat := []
  all : Bool := false

def AH.put (H : AH) (k : Key) (o : AObj) : AH :=
  match k with
  | .loc κ => { H with locs := lset H.locs κ o }
  | .hp i => { H with heap := H.heap.set i o }

/-- All values in an object. -/
def AObj.vals : AObj → List AV
  | .cells _ _ xs => xs
  | .map _ es => es.map (·.1) ++ es.map (·.2)

/-- A new object: local to slot d, or on the heap. -/
def AH.new (H : AH) (ann : Ann) (d : Nat) (o : AObj) : Option (Key × AH) :=
  if ann.hs.contains d || ann.all then (if noLocs o.vals then some (.hp H.heap.length, { H with heap := H.heap ++ [o] }) else none)
  else match lget H.locs d with
    | none => some (.loc d, { H with locs := lset H.locs d o })
    | some _ => none

def szOf (P : Program) (t : TypeId) : Option Nat := (P.info? t).map (·.size)
def zcells (P : Program) (t : TypeId) : Option (List AV) := ((P.info? t).bind (·.zero)).map fun z => z.cells.toList.map constAV
def aggT (P : Program) (t : TypeId) : Option Bool :=
  match P.underlying t with
  | none => none
  | some (.struct _) | some (.array _ _) => some true
  | some _ => some false

/-- The cells from a pointer on. -/
def pcells (H : AH) : AV → Option (List AV)
  | .vp xs => some xs
  | .ptr k g off => match H.get k with
    | some (.cells g' _ xs) => if g = g' then some (xs.drop off) else none
    | _ => none
  | _ => none

def aLoad (P : Program) (t : TypeId) (p : AV) (H : AH) : Option AV :=
  match pcells H p, aggT P t with
  | some xs, some true => match szOf P t with
    | some n => if n ≤ xs.length then some (.agg (xs.take n)) else none
    | none => none
  | some xs, some false => xs[0]?
  | _, _ => none

/-- Cells put into a row. -/
def spl (xs : List AV) (off : Nat) : List AV → List AV
  | [v] => xs.set off v
  | ys => xs.take off ++ ys ++ xs.drop (off + ys.length)

def keyOk (k : Key) (ys : List AV) : Bool := match k with | .loc _ => true | .hp _ => noLocs ys

def aStore (P : Program) (t : TypeId) (p v : AV) (H : AH) : Option AH :=
  match p, szOf P t with
  | .ptr k g off, some n => match H.get k with
    | some (.cells g' e xs) =>
      if g = g' ∧ v.cells.length = n ∧ v.cells.all AV.one = true ∧ off + n ≤ xs.length ∧ keyOk k v.cells = true then some (H.put k (.cells g e (spl xs off v.cells))) else none
    | _ => none
  | _, _ => none

/-- Is the pointer surely not nil? -/
def aNonnil (H : AH) (p : AV) : Bool := (pcells H p).isSome

def aFieldAddr (P : Program) (t : TypeId) (p : AV) (f : Nat) : Option AV :=
  match P.underlying t with
  | some (.struct fields) => match fields[f]? with
    | some fd => match szOf P fd.type with
      | some n => if n = 0 then none else match p with
        | .ptr k g off => some (.ptr k g (off + fd.offset))
        | .vp xs => some (.vp (xs.drop fd.offset))
        | _ => none
      | none => none
    | none => none
  | _ => none

def genIs (H : AH) (k : Key) (g : Nat) : Bool := match H.get k with | some o => o.gen == g | none => false

def aIndexAddr (P : Program) (t : TypeId) (x i : AV) (H : AH) : Option AV :=
  match i with
  | .int _ n => match P.underlying t with
    | some (.slice e) => match szOf P e, x with
      | some sz, .vs len xs => if 0 ≤ n ∧ n < len then some (.vp (xs.drop (n.toNat * sz))) else none
      | some sz, .sl k g sz' off len => if 0 ≤ n ∧ n < len ∧ sz = sz' ∧ genIs H k g = true then some (.ptr k g (off + n.toNat * sz)) else none
      | _, _ => none
    | some (.array len e) => match szOf P e, x with
      | some sz, .vp xs => if 0 ≤ n ∧ n < len then some (.vp (xs.drop (n.toNat * sz))) else none
      | some sz, .ptr k g off => if 0 ≤ n ∧ n < len ∧ genIs H k g = true then some (.ptr k g (off + n.toNat * sz)) else none
      | _, _ => none
    | _ => none
  | _ => none

/-- A part of a value: of type t, from a cell on. -/
def aPart (P : Program) (t : TypeId) (xs : List AV) (off : Nat) : Option AV :=
  match aggT P t, szOf P t with
  | some true, some n => some (.agg ((xs.drop off).take n))
  | some false, _ => xs[off]?
  | _, _ => none

def aIndex (P : Program) (t : TypeId) (x i : AV) : Option AV :=
  match i with
  | .int _ n => match P.underlying t, x with
    | some (.array len e), .agg xs => match szOf P e with
      | some sz => if 0 ≤ n ∧ n < len then aPart P e xs (n.toNat * sz) else none
      | none => none
    | some .string, .str s => if 0 ≤ n then match s[n.toNat]? with
      | some b => some (.int .u8 b.toNat)
      | none => none
      else none
    | _, _ => none
  | _ => none

def aField (P : Program) (t : TypeId) (x : AV) (f : Nat) : Option AV :=
  match P.underlying t, x with
  | some (.struct fields), .agg xs => match fields[f]? with
    | some fd => aPart P fd.type xs fd.offset
    | none => none
  | _, _ => none

/-- The bounds of a cut: low, high. -/
def aBounds (len : Nat) (lo hi : Option AV) : Option (Nat × Nat) :=
  match (match hi with | none => some (len : Int) | some (.int _ n) => some n | _ => none), (match lo with | none => some (0 : Int) | some (.int _ n) => some n | _ => none) with
  | some h, some l => if 0 ≤ l ∧ l ≤ h ∧ h ≤ len then some (l.toNat, h.toNat) else none
  | _, _ => none

def aSlice (P : Program) (t : TypeId) (x : AV) (lo hi : Option AV) (H : AH) : Option AV :=
  match P.underlying t with
  | some .string => match x with
    | .str s => (aBounds s.size lo hi).map fun p => .str (s.extract p.1 p.2)
    | _ => none
  | some (.slice e) => match szOf P e, x with
    | some sz, .vs n xs => match aBounds n lo hi with
      | some (l, h) => if h * sz ≤ xs.length then some (.vs (h - l) ((xs.drop (l * sz)).take ((h - l) * sz))) else none
      | none => none
    | some sz, .sl k g sz' off len => match aBounds len lo hi with
      | some (l, h) => if sz = sz' ∧ 0 < sz ∧ genIs H k g = true then some (.sl k g sz (off + l * sz) (h - l)) else none
      | none => none
    | some _, .nil => match aBounds 0 lo hi with
      | some _ => some .nil
      | none => none
    | _, _ => none
  | some (.array n e) => match szOf P e, x with
    | some sz, .ptr k g off => match H.get k, aBounds n lo hi with
      | some (.cells g' _ xs), some (l, h) => if g = g' ∧ off = 0 ∧ xs.length = n * sz ∧ 0 < sz then some (.sl k g sz (l * sz) (h - l)) else none
      | _, _ => none
    | _, _ => none
  | _ => none

def aLen (P : Program) (t : TypeId) (x : AV) (H : AH) : Option AV :=
  match P.underlying t, x with
  | some .string, .str s => some (.int .i64 s.size)
  | some (.array n _), _ => some (.int .i64 n)
  | some (.slice _), .vs n _ => some (.int .i64 n)
  | some (.slice _), .nil => some (.int .i64 0)
  | some (.slice _), .sl k g _ _ len => if genIs H k g = true then some (.int .i64 len) else none
  | some (.map _ _), .nilmap => some (.int .i64 0)
  | some (.map _ _), .map k g => match H.get k with
    | some (.map g' es) => if g = g' then some (.int .i64 es.length) else none
    | _ => none
  | _, _ => none

/-- Arithmetic and comparisons of whole numbers. -/
def aInt (op : BinOp) (k k' : IntKind) (a b : Int) : Option AV :=
  match op with
  | .shl => if 0 ≤ b then some (.int k (k.wrap (a * 2 ^ (min b.toNat k.bits)))) else none
  | .shr => if 0 ≤ b then some (.int k (a.fdiv (2 ^ (min b.toNat k.bits)))) else none
  | _ => if k ≠ k' then none else match op with
    | .add => some (.int k (k.wrap (a + b)))
    | .sub => some (.int k (k.wrap (a - b)))
    | .mul => some (.int k (k.wrap (a * b)))
    | .quo => if b = 0 then none else some (.int k (k.wrap (a.tdiv b)))
    | .rem => if b = 0 then none else some (.int k (a.tmod b))
    | .and => some (.int k (k.wrap (BitVec.ofInt k.bits a &&& BitVec.ofInt k.bits b).toNat))
    | .or => some (.int k (k.wrap (BitVec.ofInt k.bits a ||| BitVec.ofInt k.bits b).toNat))
    | .xor => some (.int k (k.wrap (BitVec.ofInt k.bits a ^^^ BitVec.ofInt k.bits b).toNat))
    | .andNot => some (.int k (k.wrap (BitVec.ofInt k.bits a &&& ~~~ BitVec.ofInt k.bits b).toNat))
    | .eql => some (.bool (a == b))
    | .neq => some (.bool (a != b))
    | .lss => some (.bool (decide (a < b)))
    | .leq => some (.bool (decide (a ≤ b)))
    | .gtr => some (.bool (decide (a > b)))
    | .geq => some (.bool (decide (a ≥ b)))
    | _ => none

/-- '==' of values of one type. -/
def aEq (P : Program) : Nat → TypeId → AV → AV → Option Bool
  | 0, _, _, _ => none
  | d + 1, t, x, y => match P.underlying t with
    | some .bool => match x, y with | .bool a, .bool b => some (a == b) | _, _ => none
    | some (.int _) => match x, y with | .int k a, .int k' b => if k = k' then some (a == b) else none | _, _ => none
    | some .string => match x, y with | .str a, .str b => some (a.data.toList == b.data.toList) | _, _ => none
    | some (.struct fields) => match x, y with
      | .agg xs, .agg ys => if P.stoodInHeld t then none else
        fields.toList.foldr (fun f r => if f.name = "_" then none else
          match aPart P f.type xs f.offset, aPart P f.type ys f.offset with
          | some u, some v => match aEq P d f.type u v with
            | some b => if b then r else some false
            | none => none
          | _, _ => none) (some true)
      | _, _ => none
    | _ => none

/-- '==' with nil. -/
def aNilEq (P : Program) (t : TypeId) (x y : AV) (H : AH) : Option Bool :=
  match P.underlying t with
  | some (.pointer _) => match x, y with
    | .nilp, .nilp => some true
    | .nilp, y => if aNonnil H y then some false else none
    | x, .nilp => if aNonnil H x then some false else none
    | _, _ => none
  | some (.slice _) => match x, y with
    | .nil, .nil => some true
    | .vs (_ + 1) (_ :: _), .nil => some false
    | .sl k g _ _ (_ + 1), .nil => if genIs H k g then some false else none
    | _, _ => none
  | some (.map _ _) => match x, y with
    | .nilmap, .nilmap => some true
    | .map k g, .nilmap => if genIs H k g then some false else none
    | _, _ => none
  | _ => none

def aBin (P : Program) (op : BinOp) (t : TypeId) (x y : AV) (H : AH) : Option AV :=
  match x, y with
  | .int k a, .int k' b => aInt op k k' a b
  | .str a, .str b => match op with
    | .eql => some (.bool (a.data.toList == b.data.toList))
    | .neq => some (.bool (!(a.data.toList == b.data.toList)))
    | .add => if a.size + b.size ≤ 9223372036854775807 then some (.str (a ++ b)) else none
    | _ => none
  | .bool a, .bool b => match op with
    | .eql => (aEq P 10000 t (.bool a) (.bool b)).map .bool
    | .neq => (aEq P 10000 t (.bool a) (.bool b)).map fun r => .bool (!r)
    | _ => none
  | .agg a, .agg b => if P.eqGuardType P.depth t then none else match op with
    | .eql => (aEq P 10000 t (.agg a) (.agg b)).map .bool
    | .neq => (aEq P 10000 t (.agg a) (.agg b)).map fun r => .bool (!r)
    | _ => none
  | x, y => match op with
    | .eql => (aNilEq P t x y H).map .bool
    | .neq => (aNilEq P t x y H).map fun r => .bool (!r)
    | _ => none

def aUn (op : UnOp) (x : AV) : Option AV :=
  match op, x with
  | .not, .bool b => some (.bool (!b))
  | .neg, .int k n => some (.int k (k.wrap (0 - n)))
  | .xor, .int k n => some (.int k (k.wrap (BitVec.ofInt k.bits (if k.signed then -1 else k.max) ^^^ BitVec.ofInt k.bits n).toNat))
  | _, _ => none


def zrep (n : Nat) (zs : List AV) : List AV := (List.range (n * zs.length)).map fun i => zs.getD (i % zs.length) .undef

def afill (place : Nat → Option (Nat × Nat)) (cells : List AV) : List (Nat × AV) → Option (List AV)
  | [] => some cells
  | (i, v) :: rest => match place i with
    | none => none
    | some (off, size) => if v.cells.length ≠ size ∨ off + v.cells.length > cells.length ∨ v.cells.all AV.one = false then none
      else afill place (v.cells.zipIdx.foldl (fun cs p => cs.set (off + p.2) p.1) cells) rest

def aBuild (P : Program) (t : TypeId) (parts : List (Nat × AV)) : Option AV :=
  match zcells P t, P.underlying t with
  | some zs, some (.struct fields) => match fields.toList.mapM (fun f => (szOf P f.type).map fun n => (f.offset, n)) with
    | some places => (afill (fun i => places[i]?) zs parts).map .agg
    | none => none
  | some zs, some (.array _ e) => match szOf P e with
    | some sz => (afill (fun i => some (i * sz, sz)) zs parts).map .agg
    | none => none
  | _, _ => none

/-- A slice's element type, its cells, its bytes. -/
def elemOfT (P : Program) (t : TypeId) : Option (TypeId × Nat × Nat) :=
  match P.underlying t with
  | some (.slice e) => (P.info? e).map fun i => (e, i.size, i.bytes)
  | _ => none

def newArr (P : Program) (ann : Ann) (d : Nat) (e : TypeId) (sz n : Nat) (xs : List AV) (H : AH) : Option (AV × AH) :=
  (H.new ann d (.cells 0 e xs)).map fun p => (.sl p.1 0 sz 0 n, p.2)

def aBuildSlice (P : Program) (ann : Ann) (dst : Option Tmp) (t : TypeId) (n : Nat) (parts : List (Nat × AV)) (H : AH) : Option (AV × AH) :=
  match elemOfT P t, dst with
  | some (e, sz, _), some d => match zcells P e with
    | some zs => if n * sz ≤ 16777216 ∧ zs.length = sz ∧ 0 < sz then
        match afill (fun i => some (i * sz, sz)) (zrep n zs) parts with
        | some cs => if ann.hs.contains d || ann.all || ann.la.contains d then newArr P ann d e sz n cs H else some (.vs n cs, H)
        | none => none
      else none
    | none => none
  | _, _ => none

/-- What is appended: how many elements, and their cells. -/
def aCells (H : AH) (sz : Nat) : AV → Option (Nat × List AV)
  | .nil => some (0, [])
  | .vs n xs => if xs.length = n * sz then some (n, xs) else none
  | .sl k g sz' off len => match H.get k with
    | some (.cells g' _ xs) => if g = g' ∧ sz = sz' ∧ off + len * sz ≤ xs.length then some (len, (xs.drop off).take (len * sz)) else none
    | _ => none
  | _ => none

def aAppend (P : Program) (ann : Ann) (dst : Option Tmp) (t tx : TypeId) (x y : AV) (H : AH) : Option (AV × AH) :=
  match elemOfT P t, elemOfT P tx, dst with
  | some (e, sz, bytes), some _, some d => match aCells H sz y with
    | some (m, ys) => if ys.all AV.one = true ∧ 0 < sz ∧ (zcells P e).map List.length = some sz then match x with
      | .nil => if m = 0 then some (.nil, H) else if m * bytes ≤ 140737488355328 ∧ m ≤ 9223372036854775807 then newArr P ann d e sz m ys H else none
      | .sl k g sz' off len => match H.get k with
        | some (.cells g' e' xs) =>
          if g = g' ∧ e = e' ∧ sz = sz' ∧ off = 0 ∧ len * sz ≤ xs.length ∧ (len + m) * bytes ≤ 140737488355328 ∧ len + m ≤ 9223372036854775807 ∧ keyOk k ys = true then
            some (.sl k (g + 1) sz 0 (len + m), H.put k (.cells (g + 1) e (xs.take (len * sz) ++ ys)))
          else none
        | _ => none
      | _ => none
      else none
    | none => none
  | _, _, _ => none

def aMakeSlice (P : Program) (ann : Ann) (dst : Option Tmp) (t : TypeId) (n c : AV) (H : AH) : Option (AV × AH) :=
  match elemOfT P t, dst, n, c with
  | some (e, sz, bytes), some d, .int _ n, .int _ c => match zcells P e with
    | some zs => if 0 ≤ n ∧ n ≤ c ∧ c * bytes ≤ 140737488355328 ∧ c ≤ 4611686018427387904 ∧ zs.length = sz ∧ 0 < sz then newArr P ann d e sz n.toNat (zrep c.toNat zs) H else none
    | none => none
  | _, _, _, _ => none

def aFind (k : IntKind) (n : Int) : List (AV × AV) → Nat → Option (Option (Nat × AV))
  | [], _ => some none
  | (.int k' m, v) :: r, i => if k = k' then (if n = m then some (some (i, v)) else aFind k n r (i + 1)) else none
  | _, _ => none

def intKey (P : Program) (t : TypeId) : Option TypeId :=
  match P.underlying t with
  | some (.map key e) => match P.underlying key with
    | some (.int _) => some e
    | _ => none
  | _ => none

def zval (P : Program) (t : TypeId) : Option AV := ((P.info? t).bind (·.zero)).map constAV

def aLookup (P : Program) (t : TypeId) (m i : AV) (ok : Bool) (H : AH) : Option AV :=
  match intKey P t, i with
  | some e, .int k n => match zval P e with
    | some z =>
      match (match m with
        | .nilmap => some none
        | .map κ g => match H.get κ with
          | some (.map g' es) => if g = g' then (aFind k n es 0).map (Option.map Prod.snd) else none
          | _ => none
        | _ => none) with
      | some r => some (if ok then .tup [r.getD z, .bool r.isSome] else r.getD z)
      | none => none
    | none => none
  | _, _ => none

def aMapUpdate (P : Program) (t : TypeId) (m i v : AV) (H : AH) : Option AH :=
  match intKey P t, i, m with
  | some e, .int k n, .map κ g => match H.get κ with
    | some (.map g' es) => if g = g' ∧ keyOk κ [v] = true then match aFind k n es 0 with
      | some (some (j, _)) => some (H.put κ (.map g (es.set j (.int k n, v))))
      | some none => some (H.put κ (.map g (es ++ [(.int k n, v)])))
      | none => none
      else none
    | _ => none
  | _, _, _ => none

def aDelete (P : Program) (t : TypeId) (m i : AV) (H : AH) : Option AH :=
  match intKey P t, i, m with
  | some e, .int k n, .map κ g => match H.get κ with
    | some (.map g' es) => if g = g' then match aFind k n es 0 with
      | some (some (j, _)) => some (H.put κ (.map g (es.eraseIdx j)))
      | some none => some H
      | none => none
      else none
    | _ => none
  | _, _, _ => none

def byteOfAV : AV → Option UInt8
  | .int .u8 n => some (UInt8.ofNat n.toNat)
  | _ => none

def aConvert (P : Program) (src dst : TypeId) (x : AV) (H : AH) : Option AV :=
  match P.underlying src, P.underlying dst, x with
  | some _, some (.int k), .int _ n => some (.int k (k.wrap n))
  | some _, some .string, .str s => some (.str s)
  | some .string, some (.slice e), .str s => match P.underlying e with
    | some (.int .u8) => some (.vs s.size (s.data.toList.map fun b => .int .u8 b.toNat))
    | _ => none
  | some (.slice e), some .string, x => match P.underlying e, aCells H 1 x with
    | some (.int .u8), some (_, xs) => match xs.mapM byteOfAV with
      | some bs => some (.str ⟨bs.toArray⟩)
      | none => none
    | _, _ => none
  | _, _, _ => none

def aMin (mx : Bool) : List AV → Option AV
  | [] => none
  | x :: rest => rest.foldlM (fun a b => match a, b with
    | .int k n, .int _ m => some (.int k (if mx then (if n < m then m else n) else (if m < n then m else n)))
    | _, _ => none) x

/-- Operations that are no calls of functions: their value, and the abstract heap behind them. -/
def aEff (P : Program) (ann : Ann) (o : Oper) (ρ : Operand → AV) (H : AH) : Option (AV × AH) :=
  match o.op with
  | .move x => some (ρ x, H)
  | .assign x => match ρ x, o.dst with
    | .nil, some d => if ann.la.contains d then match elemOfT P o.type with
        | some (e, sz, _) => if 0 < sz ∧ lget H.locs d = none then some (.sl (.loc d) 0 sz 0 0, { H with locs := lset H.locs d (.cells 0 e []) }) else none
        | none => none
      else some (.nil, H)
    | v, _ => some (v, H)
  | .pick c a b => match ρ c with
    | .bool t => some (if t then ρ a else ρ b, H)
    | _ => none
  | .alloc e => match o.dst, zcells P e with
    | some d, some zs => (H.new ann d (.cells 0 e zs)).map fun p => (.ptr p.1 0 0, p.2)
    | _, _ => none
  | .box e x => match o.dst with
    | some d => if (ρ x).cells.all AV.one = true then (H.new ann d (.cells 0 e (ρ x).cells)).map fun p => (.ptr p.1 0 0, p.2) else none
    | none => none
  | .build t parts => (aBuild P t (parts.toList.map fun p => (p.1, ρ p.2))).map (·, H)
  | .buildSlice t n parts => aBuildSlice P ann o.dst t n (parts.toList.map fun p => (p.1, ρ p.2)) H
  | .load t p => (aLoad P t (ρ p) H).map (·, H)
  | .store t p x => (aStore P t (ρ p) (ρ x) H).map (.undef, ·)
  | .nilCheck x => if aNonnil H (ρ x) then some (ρ x, H) else none
  | .binOp op t x y _ => (aBin P op t (ρ x) (ρ y) H).map (·, H)
  | .unOp op _ x => (aUn op (ρ x)).map (·, H)
  | .convert src dst x => (aConvert P src dst (ρ x) H).map (·, H)
  | .makeFunc (.func f) first cap => some (.fn f (first.toList.map ρ) (cap.toList.map ρ), H)
  | .makeMap t none => match o.dst with
    | some d => (H.new ann d (.map 0 [])).map fun p => (.map p.1 0, p.2)
    | none => none
  | .makeSlice t n c => aMakeSlice P ann o.dst t (ρ n) (ρ c) H
  | .slice t x lo hi none => (aSlice P t (ρ x) (lo.map ρ) (hi.map ρ) H).map (·, H)
  | .fieldAddr t x f => if aNonnil H (ρ x) then (aFieldAddr P t (ρ x) f).map (·, H) else none
  | .field t x f => (aField P t (ρ x) f).map (·, H)
  | .indexAddr t x i => (aIndexAddr P t (ρ x) (ρ i) H).map (·, H)
  | .index t x i => (aIndex P t (ρ x) (ρ i)).map (·, H)
  | .lookup t m i ok => (aLookup P t (ρ m) (ρ i) ok H).map (·, H)
  | .mapUpdate t m i v => (aMapUpdate P t (ρ m) (ρ i) (ρ v) H).map (.undef, ·)
  | .extract t i => match ρ t with
    | .tup xs => (xs[i]?).map (·, H)
    | _ => none
  | .call { callee := .builtin .len, args, argTypes } => match args.toList, argTypes.toList with
    | [x], [t] => (aLen P t (ρ x) H).map (·, H)
    | _, _ => none
  | .call { callee := .builtin .append, args, argTypes } => match args.toList, argTypes.toList with
    | [x, y], [t, tx] => aAppend P ann o.dst t tx (ρ x) (ρ y) H
    | _, _ => none
  | .call { callee := .builtin .delete, args, argTypes } => match args.toList, argTypes.toList with
    | [m, i], t :: _ => (aDelete P t (ρ m) (ρ i) H).map (.tup [], ·)
    | _, _ => none
  | .call { callee := .builtin .min, args, .. } => (aMin false (args.toList.map ρ)).map (·, H)
  | .call { callee := .builtin .max, args, .. } => (aMin true (args.toList.map ρ)).map (·, H)
  | _ => none

end Go.AL
namespace Go.AL
open Go

theorem VR.of_at {L : Lay} {k : Key} {S : Nat → Prop} {w : World} {x : AV} {u : Value} (h : VR (L.at k) S w x u) : VR L S w x u := by
  cases k
  · exact h
  · exact h.of_hp

theorem VR.to_at {L : Lay} {k : Key} {S : Nat → Prop} {w : World} {xs : List AV} (hk : keyOk k xs = true) {j : Nat} {x : AV} {u : Value} (hx : xs[j]? = some x) (h : VR L S w x u) : VR (L.at k) S w x u := by
  cases k
  · exact h
  · exact h.to_hp (noLocs_get hk hx)

/-- The cells that stand at an address. -/
structure CellsAt (L : Lay) (S : Nat → Prop) (w : World) (b o : Nat) (xs : List AV) (us : List Value) : Prop where
  len : us.length = xs.length
  cell : ∀ (j : Nat) (v : Value), us[j]? = some v → w.cell? ⟨b, o + j, none⟩ = some v
  val : ∀ (j : Nat) (x : AV) (v : Value), xs[j]? = some x → us[j]? = some v → VR L S w x v

theorem CellsAt.drop {L : Lay} {S : Nat → Prop} {w : World} {b o : Nat} {xs : List AV} {us : List Value} (h : CellsAt L S w b o xs us) (n : Nat) : CellsAt L S w b (o + n) (xs.drop n) (us.drop n) where
  len := by simp [h.len]
  cell := fun j v hv => by rw [List.getElem?_drop] at hv; have := h.cell _ v hv; rwa [← Nat.add_assoc] at this
  val := fun j x v hx hv => by rw [List.getElem?_drop] at hx hv; exact h.val _ x v hx hv

theorem CellsAt.take {L : Lay} {S : Nat → Prop} {w : World} {b o : Nat} {xs : List AV} {us : List Value} (h : CellsAt L S w b o xs us) (n : Nat) : CellsAt L S w b o (xs.take n) (us.take n) where
  len := by simp [h.len]
  cell := fun j v hv => by
    rw [List.getElem?_take] at hv
    split at hv
    · exact h.cell _ v hv
    · cases hv
  val := fun j x v hx hv => by
    rw [List.getElem?_take] at hx hv
    split at hv
    · rename_i hlt; simp [hlt] at hx; exact h.val _ x v hx hv
    · cases hv

theorem cellsAt_obj {B : Base} {L : Lay} {S : Nat → Prop} {H : AH} {w : World} (hr : HR B L S H w) {k : Key} {g : Nat} {e : TypeId} {xs : List AV} {r : Reg} {b : Nat}
    (hget : H.get k = some (.cells g e xs)) (hL : L k = some r) (hb : r.blk = some b) :
    ∃ cur, w.heap[b]? = some (.cells cur e (0, 0)) ∧ cur.size = r.tot ∧ xs.length ≤ cur.size ∧ r.gen = g ∧
      CellsAt L S w b 0 xs (cur.toList.take xs.length) ∧ CellsAt (L.at k) S w b 0 xs (cur.toList.take xs.length) := by
  obtain ⟨r', hL', hor⟩ := hr.obj k _ hget
  rw [hL] at hL'
  cases hL'
  cases hor with
  | none h1 h2 h3 => rw [hb] at h1; cases h1
  | cells h1 h2 h3 h4 h5 h6 =>
    rename_i b' cur
    rw [hb] at h1
    cases h1
    have key : CellsAt (L.at k) S w b 0 xs (cur.toList.take xs.length) := by
      refine ⟨by simp; omega, fun j v hv => ?_, fun j x v hx hv => ?_⟩
      · rw [List.getElem?_take] at hv
        split at hv
        · simp [World.cell?, h3]; simpa using hv
        · cases hv
      · obtain ⟨u, hu, hvr⟩ := h6 j x hx
        rw [List.getElem?_take] at hv
        split at hv
        · have : u = v := by
            have h7 : cur[j]? = some v := by simpa using hv
            rw [hu] at h7; exact Option.some.inj h7
          exact this ▸ hvr
        · cases hv
    exact ⟨cur, h3, h4, h5, h2, ⟨key.len, key.cell, fun j x v a b => (key.val j x v a b).of_at⟩, key⟩

theorem pcells_sound {B : Base} {L : Lay} {S : Nat → Prop} {H : AH} {w : World} (hr : HR B L S H w) {p : AV} {u : Value} {xs : List AV} (h : pcells H p = some xs) (hv : VR L S w p u) :
    ∃ b o us, u = .pointer (some ⟨b, o, none⟩) ∧ CellsAt L S w b o xs us := by
  unfold pcells at h
  split at h
  · cases h
    cases hv with
    | vp hS us hl hc hv => exact ⟨_, _, us, rfl, hl, hc, hv⟩
  · split at h
    · rename_i k g off _ g' e xs0 hget
      by_cases hg : g = g'
      · subst hg
        simp only [if_true] at h
        cases h
        obtain ⟨r, hL, hor⟩ := hr.obj _ _ hget
        cases hv with
        | ptrStale h1 h2 a => rw [hL] at h1; cases h1; have := hor.gen; simp [AObj.gen] at this; omega
        | @ptr _ _ _ r' b h1 h2 h3 =>
          rw [hL] at h1; cases h1
          obtain ⟨cur, _, _, _, _, hc, _⟩ := cellsAt_obj hr hget hL h3
          have := hc.drop off
          exact ⟨b, off, _, rfl, by simpa using this⟩
      · simp [hg] at h
    · cases h
  · cases h

theorem run_typeInfo {P : Program} {t : TypeId} {i : TypeInfo} (h : P.info? t = some i) (w : World) : (typeInfo t).run P w = .ok i w := by simp [typeInfo, h]
theorem run_sizeOf {P : Program} {t : TypeId} {n : Nat} (h : szOf P t = some n) (w : World) : (sizeOf t).run P w = .ok n w := by
  unfold szOf at h
  cases hi : P.info? t with
  | none => simp [hi] at h
  | some i => simp [hi] at h; simp [sizeOf, typeInfo, hi, h]
theorem run_isAgg {P : Program} {t : TypeId} {b : Bool} (h : aggT P t = some b) (w : World) : (isAgg t).run P w = .ok b w := by
  unfold aggT at h
  unfold isAgg
  split at h
  · cases h
  · cases h; rename_i h1; simp [run_underlying h1]
  · cases h; rename_i h1; simp [run_underlying h1]
  · cases h; rename_i d h1 h2 hd
    simp only [Sem.run_bind, run_underlying hd, Result.andThen_ok]
    cases d <;> first | rfl | exact absurd hd (by simp_all)
theorem run_zero {P : Program} {t : TypeId} {zs : List AV} (h : zcells P t = some zs) (w : World) : ∃ z, (zeroValue t).run P w = .ok z w ∧ zs = z.cells.toList.map constAV ∧ ∃ i, P.info? t = some i ∧ i.zero = some z := by
  unfold zcells at h
  cases hi : P.info? t with
  | none => simp [hi] at h
  | some i =>
    cases hz : i.zero with
    | none => simp [hi, hz] at h
    | some z => simp [hi, hz] at h; exact ⟨z, by simp [zeroValue, typeInfo, hi, hz], h.symm, i, rfl, hz⟩

theorem Addr.add_eq (b o j : Nat) : (⟨b, o, none⟩ : Addr).add j = ⟨b, o + j, none⟩ := by unfold Addr.add; split <;> simp_all

theorem aLoad_sound {P : Program} {B : Base} {L : Lay} {S : Nat → Prop} {H : AH} {w : World} (hr : HR B L S H w) {t : TypeId} {p v : AV} {u : Value} (h : aLoad P t p H = some v) (hv : VR L S w p u) :
    ∃ x, (Instr.loadAt t u).run P w = .ok x w ∧ VR L S w v x := by
  unfold aLoad at h
  split at h
  · rename_i xs hp ha
    obtain ⟨b, o, us, rfl, hc⟩ := pcells_sound hr hp hv
    split at h
    · rename_i n hn
      split at h
      · rename_i hle
        cases h
        have hc' := hc.take n
        have hl : (us.take n).length = n := by simp [hc.len]; omega
        have hrun : (loadCells ⟨b, o, none⟩ n).run P w = .ok (us.take n).toArray w := by
          have := run_loadCells_list (P := P) w ⟨b, o, none⟩ (us.take n) (fun j v hj => by rw [Addr.add_eq]; exact hc'.cell j v hj)
          rwa [hl] at this
        refine ⟨.agg (us.take n).toArray, ?_, .agg _ hc'.len hc'.val⟩
        simp [Instr.loadAt, Instr.sureAddr, loadVar, run_isAgg ha, run_sizeOf hn, hrun]
      · cases h
    · cases h
  · rename_i xs hp ha
    obtain ⟨b, o, us, rfl, hc⟩ := pcells_sound hr hp hv
    have hlt : 0 < us.length := by
      rw [hc.len]
      exact (List.getElem?_eq_some_iff.1 h).1
    have hu : us[0]? = some us[0] := List.getElem?_eq_getElem hlt
    refine ⟨us[0], ?_, hc.val 0 v _ h hu⟩
    have := hc.cell 0 _ hu
    simp only [Nat.add_zero] at this
    simp [Instr.loadAt, Instr.sureAddr, loadVar, run_isAgg ha, this]
  · cases h
end Go.AL
namespace Go.AL
open Go

theorem spl_eq (xs : List AV) (off : Nat) (ys : List AV) (h : off + ys.length ≤ xs.length) : spl xs off ys = xs.take off ++ ys ++ xs.drop (off + ys.length) := by
  unfold spl
  split
  · simp at h; rw [List.set_eq_take_append_cons_drop]; simp; omega
  · rfl
theorem spl_length (xs : List AV) (off : Nat) (ys : List AV) (h : off + ys.length ≤ xs.length) : (spl xs off ys).length = xs.length := by
  rw [spl_eq _ _ _ h]; simp; omega
theorem splice_get {α : Type} (xs ys : List α) (off j : Nat) (h : off + ys.length ≤ xs.length) :
    (xs.take off ++ ys ++ xs.drop (off + ys.length))[j]? = if j < off then xs[j]? else if j < off + ys.length then ys[j - off]? else xs[j]? := by
  by_cases h1 : j < off
  · rw [if_pos h1, List.append_assoc, List.getElem?_append_left (by simp; omega), List.getElem?_take_of_lt h1]
  · rw [if_neg h1]
    by_cases h2 : j < off + ys.length
    · rw [if_pos h2, List.getElem?_append_left (by simp; omega), List.getElem?_append_right (by simp; omega)]
      congr 1; simp; omega
    · rw [if_neg h2, List.getElem?_append_right (by simp; omega), List.getElem?_drop]
      congr 1; simp; omega

theorem setRow_size (w : World) (g : Nat) (cs : Array Value) : (w.setRow g cs).heap.size = w.heap.size := by simp [World.setRow]
theorem setRow_tape (w : World) (g : Nat) (cs : Array Value) : (w.setRow g cs).tape = w.tape := rfl
theorem setRow_output (w : World) (g : Nat) (cs : Array Value) : (w.setRow g cs).output = w.output := rfl

theorem AH.get_put {H : AH} {k : Key} {o o' : AObj} (h : H.get k = some o) (k' : Key) : (H.put k o').get k' = if k' = k then some o' else H.get k' := by
  cases k with
  | loc κ =>
    cases k' with
    | loc κ' => simp only [AH.put, AH.get, lget_lset, Key.loc.injEq]
    | hp i => simp [AH.put, AH.get]
  | hp i =>
    cases k' with
    | loc κ' => simp [AH.put, AH.get]
    | hp i' =>
      simp only [AH.put, AH.get, List.getElem?_set, Key.hp.injEq]
      have hlt : i < H.heap.length := (List.getElem?_eq_some_iff.1 h).1
      by_cases e : i' = i
      · subst e; simp [hlt]
      · simp [e, Ne.symm e]

/-- What a sound step leaves. -/
structure Step (B : Base) (L : Lay) (S : Nat → Prop) (w : World) (L' : Lay) (S' : Nat → Prop) (H' : AH) (w' : World) : Prop where
  hr : HR B L' S' H' w'
  le : L.le L'
  sub : ∀ b, S b → S' b
  kept : Kept S w w'

theorem aStore_sound {P : Program} {B : Base} {L : Lay} {S : Nat → Prop} {H H' : AH} {w : World} (hr : HR B L S H w) {t : TypeId} {p v : AV} {u x : Value} (h : aStore P t p v H = some H')
    (hp : VR L S w p u) (hv : VR L S w v x) : ∃ L' w', (Instr.storeAt t u x).run P w = .ok () w' ∧ Step B L S w L' S H' w' := by
  unfold aStore at h
  split at h
  · rename_i k g off n hn
    split at h
    · rename_i g' e xs hget
      split at h
      · rename_i hc
        obtain ⟨rfl, hlen, hone, hfit, hk⟩ := hc
        cases h
        obtain ⟨r, hL, hor⟩ := hr.obj _ _ hget
        cases hp with
        | ptrStale h1 h2 a => rw [hL] at h1; cases h1; have := hor.gen; simp [AObj.gen] at this; omega
        | @ptr _ _ _ r' b h1 h2 h3 =>
          rw [hL] at h1; cases h1
          obtain ⟨cur, hw, hcs, hle, hg, hca, hca'⟩ := cellsAt_obj hr hget hL h3
          obtain ⟨hvs, hones⟩ := hv.cells hone
          have hxl : x.cells.toList.length = n := by rw [hvs.1, hlen]
          have hst := run_storeCells_at P b off e x.cells.toList 0 cur w hw (by rw [hxl]; omega) hones
          simp only [Nat.add_zero] at hst
          refine ⟨L.set k r, w.setRow b (cur.toList.take off ++ x.cells.toList ++ cur.toList.drop (off + x.cells.toList.length)).toArray, ?_, ?_⟩
          · have hsz : x.cells.size = n := by simpa using hxl
            simp [Instr.storeAt, Instr.sureAddr, storeVar, run_sizeOf hn, hsz, hst]
          · have hb : b < w.heap.size := hr.lt _ _ _ hL h3
            have hset : ∀ r', L k = some r' → r' = r := fun r' h => by rw [hL] at h; exact (Option.some.inj h).symm
            have hupd := hr.upd (H' := H.put k (.cells g e (spl xs off v.cells))) (w' := w.setRow b (cur.toList.take off ++ x.cells.toList ++ cur.toList.drop (off + x.cells.toList.length)).toArray)
              (k := k) (r' := r) (o' := .cells g e (spl xs off v.cells)) rfl rfl rfl (by rw [setRow_size]; omega)
              (fun b' hb' hne => setRow_other w b b' _ (fun e => hne r hL (e ▸ h3)))
              (fun r' h => ⟨by rw [hset r' h]; exact Nat.le_refl _, fun _ => (hset r' h).symm⟩)
              (fun b' hb' => ⟨by rw [setRow_size]; exact hr.lt _ _ _ hL hb', .inr ⟨r, hL, hb'⟩⟩) ?_ (AH.get_put hget)
            · exact ⟨hupd.1, hupd.2.1, fun _ h => h, hupd.2.2⟩
            · have hsz : x.cells.size = n := by simpa using hxl
              refine .cells h3 hg (setRow_heap w b cur _ e _ hw) ?_ ?_ ?_
              · simp [hsz]; omega
              · rw [spl_length _ _ _ (by omega)]; simp [hsz]; omega
              · intro j y hy
                have hK : Kept S w (w.setRow b (cur.toList.take off ++ x.cells.toList ++ cur.toList.drop (off + x.cells.toList.length)).toArray) := fun b' hb' => setRow_other w b b' _ (fun e => hr.stab k r b hL h3 (e ▸ hb'))
                have hLe : L.le (L.set k r) := Lay.le_set fun r' h => ⟨by rw [hset r' h]; exact Nat.le_refl _, fun _ => (hset r' h).symm⟩
                rw [spl_eq _ _ _ (by omega), splice_get _ _ _ _ (by omega)] at hy
                have hget2 := splice_get cur.toList x.cells.toList off j (by rw [hxl]; simp; omega)
                simp only [List.getElem?_toArray]
                rw [hget2]
                rw [show v.cells.length = x.cells.toList.length by rw [hxl, hlen]] at hy
                have old : ∀ y, xs[j]? = some y → ∃ u, cur.toList[j]? = some u ∧ VR ((L.set k r).at k) S (w.setRow b (cur.toList.take off ++ x.cells.toList ++ cur.toList.drop (off + x.cells.toList.length)).toArray) y u := by
                  intro y hy
                  have hj : j < xs.length := (List.getElem?_eq_some_iff.1 hy).1
                  have hj2 : j < cur.toList.length := by simp; omega
                  refine ⟨cur.toList[j], List.getElem?_eq_getElem hj2, ?_⟩
                  have := hca'.val j y cur.toList[j] hy (by rw [List.getElem?_take_of_lt hj]; exact List.getElem?_eq_getElem hj2)
                  exact this.mono (Lay.at_le hLe k) (fun _ h => h) hK
                by_cases h1 : j < off
                · simp only [h1, if_true] at hy ⊢; exact old y hy
                · simp only [h1, if_false] at hy ⊢
                  by_cases h2 : j < off + x.cells.toList.length
                  · simp only [h2, if_true] at hy ⊢
                    have hj : j - off < v.cells.length := (List.getElem?_eq_some_iff.1 hy).1
                    have hj2 : j - off < x.cells.toList.length := by rw [hvs.1]; exact hj
                    refine ⟨x.cells.toList[j - off], List.getElem?_eq_getElem hj2, ?_⟩
                    have := VR.to_at (k := k) hk hy (hvs.2 _ y _ hy (List.getElem?_eq_getElem hj2))
                    exact this.mono (Lay.at_le hLe k) (fun _ h => h) hK
                  · simp only [h2, if_false] at hy ⊢; exact old y hy
      · cases h
    · cases h
  · cases h
end Go.AL
namespace Go.AL
open Go

theorem AH.new_get {H H' : AH} {ann : Ann} {d : Nat} {o : AObj} {k : Key} (h : H.new ann d o = some (k, H')) :
    H.get k = none ∧ (∀ k', H'.get k' = if k' = k then some o else H.get k') ∧ (∀ i, k = .hp i → noLocs o.vals = true) := by
  unfold AH.new at h
  split at h
  · split at h
    · rename_i hn
      cases h
      refine ⟨by simp [AH.get], fun k' => ?_, fun i _ => hn⟩
      cases k' with
      | loc κ => simp [AH.get]
      | hp i =>
        simp only [AH.get, Key.hp.injEq]
        by_cases e : i = H.heap.length
        · subst e; simp
        · simp only [e, if_false]
          by_cases hlt : i < H.heap.length
          · rw [List.getElem?_append_left hlt]
          · rw [List.getElem?_eq_none (by simp; omega), List.getElem?_eq_none (by omega)]
    · cases h
  · split at h
    · rename_i hn
      cases h
      refine ⟨hn, fun k' => ?_, fun i hi => by cases hi⟩
      cases k' with
      | loc κ => simp [AH.get, lget_lset]
      | hp i => simp [AH.get]
    · cases h

/-- The world has got one block more. -/
structure NewBlock (w w' : World) (obj : Obj) : Prop where
  os : w'.os = w.os
  tape : w'.tape = w.tape
  output : w'.output = w.output
  size : w'.heap.size = w.heap.size + 1
  old : ∀ b, b < w.heap.size → w'.heap[b]? = w.heap[b]?
  new : w'.heap[w.heap.size]? = some obj

theorem NewBlock.alloc (w : World) (o : Obj) : NewBlock w (w.alloc o) o where
  os := rfl
  tape := rfl
  output := rfl
  size := by simp
  old := fun b hb => heap_alloc_old w o b hb
  new := heap_alloc_new w o
theorem NewBlock.alloc_drew (w : World) (o : Obj) : NewBlock w (w.drew.alloc o) o where
  os := rfl
  tape := rfl
  output := rfl
  size := by simp
  old := fun b hb => heap_alloc_old w.drew o b hb
  new := heap_alloc_new w.drew o

theorem new_sound {B : Base} {L : Lay} {S : Nat → Prop} {H H' : AH} {w w' : World} (hr : HR B L S H w) {ann : Ann} {d : Nat} {o : AObj} {k : Key} (h : H.new ann d o = some (k, H'))
    {obj : Obj} (hw : NewBlock w w' obj) (tot : Nat) (hg : o.gen = 0)
    (hor : ∀ L', Lay.le (L.at k) L' → OR L' S w' ⟨some w.heap.size, 0, tot⟩ o) :
    Step B L S w (L.set k ⟨some w.heap.size, 0, tot⟩) S H' w' := by
  obtain ⟨hk, hget, hloc⟩ := AH.new_get h
  have hLk : L k = none := by
    cases hl : L k with
    | none => rfl
    | some r => exact absurd hk (hr.dom k r hl)
  have hle : L.le (L.set k ⟨some w.heap.size, 0, tot⟩) := Lay.le_set fun r h => by rw [hLk] at h; cases h
  have := hr.upd (H' := H') (w' := w') (k := k) (r' := ⟨some w.heap.size, 0, tot⟩) (o' := o) hw.os hw.tape hw.output (by rw [hw.size]; omega) (fun b hb _ => hw.old b hb)
    (fun r h => by rw [hLk] at h; cases h) (fun b hb => by simp at hb; subst hb; exact ⟨by rw [hw.size]; omega, .inl (Nat.le_refl _)⟩) (hor _ (Lay.at_le hle k)) hget
  exact ⟨this.1, this.2.1, fun _ h => h, this.2.2⟩

theorem keyOk_of_new {H H' : AH} {ann : Ann} {d : Nat} {g : Nat} {e : TypeId} {xs : List AV} {k : Key} (h : H.new ann d (.cells g e xs) = some (k, H')) : keyOk k xs = true := by
  cases k with
  | loc κ => rfl
  | hp i => exact (AH.new_get h).2.2 i rfl

theorem new_cells {B : Base} {L : Lay} {S : Nat → Prop} {H H' : AH} {w w' : World} (hr : HR B L S H w) {ann : Ann} {d : Nat} {e : TypeId} {xs : List AV} {k : Key} (h : H.new ann d (.cells 0 e xs) = some (k, H'))
    {cur : Array Value} (hw : NewBlock w w' (.cells cur e)) (hl : xs.length ≤ cur.size) (hv : ∀ (j : Nat) (x : AV), xs[j]? = some x → ∃ u, cur[j]? = some u ∧ VR L S w x u) :
    Step B L S w (L.set k ⟨some w.heap.size, 0, cur.size⟩) S H' w' := by
  refine new_sound hr h hw cur.size rfl fun L' hL' => .cells rfl rfl hw.new rfl hl fun j x hx => ?_
  obtain ⟨u, hu, hvr⟩ := hv j x hx
  exact ⟨u, hu, (VR.to_at (keyOk_of_new h) hx hvr).mono hL' (fun _ h => h) fun b hb => hw.old b (hr.Slt b hb)⟩

theorem zcells_val {L : Lay} {S : Nat → Prop} {w : World} (z : Value) (j : Nat) (x : AV) (hx : (z.cells.toList.map constAV)[j]? = some x) : ∃ u, z.cells[j]? = some u ∧ VR L S w x u := by
  rw [List.getElem?_map] at hx
  cases hz : z.cells.toList[j]? with
  | none => simp [hz] at hx
  | some u => simp [hz] at hx; subst hx; exact ⟨u, by simpa using hz, .const _ _ _ u⟩

theorem alloc_sound {P : Program} {B : Base} {L : Lay} {S : Nat → Prop} {H H' : AH} {w : World} (hr : HR B L S H w) {ann : Ann} {d : Nat} {e : TypeId} {zs : List AV} {k : Key} (hz : zcells P e = some zs)
    (h : H.new ann d (.cells 0 e zs) = some (k, H')) : ∃ u w' L', (Instr.alloc e true (.tuple #[])).run P w = .ok u w' ∧ VR L' S w' (.ptr k 0 0) u ∧ Step B L S w L' S H' w' := by
  obtain ⟨z, hrun, rfl, _⟩ := run_zero hz w
  have hst := new_cells hr h (NewBlock.alloc w (.cells z.cells e)) (by simp) (fun j x hx => zcells_val z j x hx)
  refine ⟨.pointer (some ⟨w.heap.size, 0, none⟩), w.alloc (.cells z.cells e), _, ?_, .ptr (Lay.set_same ..) rfl rfl, hst⟩
  simp [Instr.alloc, hrun, newVar, newRow]

theorem box_sound {P : Program} {B : Base} {L : Lay} {S : Nat → Prop} {H H' : AH} {w : World} (hr : HR B L S H w) {ann : Ann} {d : Nat} {e : TypeId} {x : AV} {v : Value} {k : Key} (hone : x.cells.all AV.one = true)
    (h : H.new ann d (.cells 0 e x.cells) = some (k, H')) (hv : VR L S w x v) : ∃ u w' L', (Instr.box e v).run P w = .ok u w' ∧ VR L' S w' (.ptr k 0 0) u ∧ Step B L S w L' S H' w' := by
  obtain ⟨hvs, _⟩ := hv.cells hone
  have hl := hvs.1
  have hst := new_cells hr h (NewBlock.alloc w (.cells v.cells e)) (by simpa using Nat.le_of_eq hl.symm) (fun j y hy => by
    have hj : j < v.cells.toList.length := by rw [hl]; exact (List.getElem?_eq_some_iff.1 hy).1
    exact ⟨v.cells.toList[j], by simp at hj; simp [hj], hvs.2 j y _ hy (List.getElem?_eq_getElem hj)⟩)
  refine ⟨.pointer (some ⟨w.heap.size, 0, none⟩), w.alloc (.cells v.cells e), _, ?_, .ptr (Lay.set_same ..) rfl rfl, hst⟩
  simp [Instr.box, newVar, newRow]

theorem makeMap_sound {P : Program} {B : Base} {L : Lay} {S : Nat → Prop} {H H' : AH} {w : World} (hr : HR B L S H w) {ann : Ann} {d : Nat} {t : TypeId} {k : Key}
    (h : H.new ann d (.map 0 []) = some (k, H')) : ∃ u w' L', (Instr.makeMap t none).run P w = .ok u w' ∧ VR L' S w' (.map k 0) u ∧ Step B L S w L' S H' w' := by
  have hst := new_sound hr h (NewBlock.alloc w (.map #[] 0)) 0 rfl fun L' hL' => .map rfl rfl (NewBlock.alloc w (.map #[] 0)).new rfl (by simp) (by simp)
  exact ⟨.map (some w.heap.size), w.alloc (.map #[] 0), _, by simp [Instr.makeMap], .map (Lay.set_same ..) rfl rfl, hst⟩

/-- A new row that nothing writes any more. -/
theorem stable_new {B : Base} {L : Lay} {S : Nat → Prop} {H : AH} {w w' : World} (hr : HR B L S H w) {obj : Obj} (hw : NewBlock w w' obj) :
    Step B L S w L (fun b => S b ∨ b = w.heap.size) H w' := by
  have := hr.grow hw.os hw.tape hw.output (by rw [hw.size]; omega) hw.old (fun b => b = w.heap.size) (fun b hb => by subst hb; exact ⟨Nat.le_refl _, by rw [hw.size]; omega⟩)
  exact ⟨this.1, Lay.le_refl _, fun b h => .inl h, this.2⟩

theorem VR.vs_new {L : Lay} {S : Nat → Prop} {w' : World} {cur : Array Value} {e : TypeId} {fz : Nat × Nat} {n cap : Nat} {xs : List AV} {b : Nat} (hnew : w'.heap[b]? = some (.cells cur e fz)) (hS : S b) (hcap : n ≤ cap) (hl : xs.length ≤ cur.size)
    (hv : ∀ (j : Nat) (x : AV), xs[j]? = some x → ∃ u, cur[j]? = some u ∧ VR L S w' x u) : VR L S w' (.vs n xs) (.slice (some ⟨b, 0, none⟩) n cap) := by
  refine .vs hS hcap (cur.toList.take xs.length) (by simp; omega) (fun j u hu => ?_) fun j x u hx hu => ?_
  · rw [List.getElem?_take] at hu
    split at hu
    · simp [World.cell?, hnew]; simpa using hu
    · cases hu
  · obtain ⟨u', hu', hvr⟩ := hv j x hx
    rw [List.getElem?_take_of_lt (List.getElem?_eq_some_iff.1 hx).1] at hu
    have : cur[j]? = some u := by simpa using hu
    rw [hu'] at this
    exact Option.some.inj this ▸ hvr
end Go.AL
namespace Go.AL
open Go

/-- A row of abstract cells and one of cells. -/
structure RowR (L : Lay) (S : Nat → Prop) (w : World) (xs : List AV) (cur : Array Value) : Prop where
  len : xs.length = cur.size
  val : ∀ (j : Nat) (x : AV), xs[j]? = some x → ∃ u, cur[j]? = some u ∧ VR L S w x u

theorem RowR.set {L : Lay} {S : Nat → Prop} {w : World} {xs : List AV} {cur : Array Value} (h : RowR L S w xs cur) (i : Nat) {x : AV} {u : Value} (hv : VR L S w x u) : RowR L S w (xs.set i x) (cur.setIfInBounds i u) where
  len := by simp [h.len]
  val := fun j y hy => by
    rw [List.getElem?_set] at hy
    by_cases e : i = j
    · subst e
      simp only [if_true] at hy
      split at hy
      · rename_i hlt; cases hy; exact ⟨u, by rw [Array.getElem?_setIfInBounds_self]; simp [← h.len, hlt], hv⟩
      · cases hy
    · simp only [e, if_false] at hy
      obtain ⟨u', h1, h2⟩ := h.val j y hy
      exact ⟨u', by rw [Array.getElem?_setIfInBounds_ne e]; exact h1, h2⟩

theorem RowR.sets {L : Lay} {S : Nat → Prop} {w : World} (off : Nat) : ∀ (ys : List AV) (us : List Value) (k : Nat) (xs : List AV) (cur : Array Value), VRs L S w ys us → RowR L S w xs cur →
    RowR L S w ((ys.zipIdx k).foldl (fun cs p => cs.set (off + p.2) p.1) xs) ((us.zipIdx k).foldl (fun cs p => cs.setIfInBounds (off + p.2) p.1) cur)
  | [], [], k, xs, cur, _, h => h
  | [], u :: us, _, _, _, hv, _ => by simp [VRs] at hv
  | y :: ys, [], _, _, _, hv, _ => by simp [VRs] at hv
  | y :: ys, u :: us, k, xs, cur, hv, h => by
    simp only [List.zipIdx_cons, List.foldl_cons]
    refine RowR.sets off ys us (k + 1) _ _ ⟨by have := hv.1; simpa using this, fun j x v h1 h2 => hv.2 (j + 1) x v (by simpa using h1) (by simpa using h2)⟩ (h.set _ (hv.2 0 y u rfl rfl))

theorem afill_sound {L : Lay} {S : Nat → Prop} {w : World} (place : Nat → Option (Nat × Nat)) : ∀ (ps : List (Nat × AV)) (us : List (Nat × Value)) (xs ys : List AV) (cur : Array Value),
    us.length = ps.length → (∀ (j : Nat) (p : Nat × AV) (q : Nat × Value), ps[j]? = some p → us[j]? = some q → p.1 = q.1 ∧ VR L S w p.2 q.2) → RowR L S w xs cur → afill place xs ps = some ys →
    ∃ cur', Instr.fill place cur us = some cur' ∧ RowR L S w ys cur'
  | [], us, xs, ys, cur, hl, hv, h, he => by
    cases us with
    | cons _ _ => simp at hl
    | nil => simp only [afill] at he; cases he; exact ⟨cur, rfl, h⟩
  | (i, v) :: ps, us, xs, ys, cur, hl, hv, h, he => by
    cases us with
    | nil => simp at hl
    | cons q us =>
      obtain ⟨i', u⟩ := q
      obtain ⟨rfl, hvr⟩ := hv 0 _ _ rfl rfl
      simp only [afill] at he
      simp only [Instr.fill]
      cases hp : place i with
      | none => simp [hp] at he
      | some q =>
        obtain ⟨off, size⟩ := q
        simp only [hp] at he ⊢
        split at he
        · cases he
        · rename_i hc
          simp only [not_or, Nat.not_lt, Decidable.not_not, Bool.not_eq_false] at hc
          obtain ⟨h1, h2, h3⟩ := hc
          obtain ⟨hvs, _⟩ := hvr.cells h3
          have hus : u.cells.size = v.cells.length := by simpa using hvs.1
          have hno : ¬ (u.cells.size ≠ size ∨ off + u.cells.size > cur.size) := by
            rw [hus, ← h.len]; simp only [ne_eq, not_or, Decidable.not_not]; omega
          have hs := RowR.sets off v.cells u.cells.toList 0 xs cur hvs h
          have e1 : u.cells.zipIdx.foldl (fun cs x => cs.setIfInBounds (off + x.2) x.1) cur = (u.cells.toList.zipIdx 0).foldl (fun cs p => cs.setIfInBounds (off + p.2) p.1) cur := by
            rw [← Array.foldl_toList, Array.toList_zipIdx]
          obtain ⟨cur', hf, hr⟩ := afill_sound place ps us _ ys _ (by simpa using hl) (fun j p q a b => hv (j + 1) p q (by simpa using a) (by simpa using b)) hs he
          refine ⟨cur', ?_, hr⟩
          rw [← hf]
          simp only [Bool.or_eq_true, decide_eq_true_eq, bne_iff_ne, ne_eq]
          rw [if_neg (by simpa using hno)]
          congr 1

theorem RowR.zero {L : Lay} {S : Nat → Prop} {w : World} (z : Value) : RowR L S w (z.cells.toList.map constAV) z.cells where
  len := by simp
  val := fun j x hx => zcells_val z j x hx

theorem RowR.zrep {L : Lay} {S : Nat → Prop} {w : World} (z : Value) (n sz : Nat) (hsz : z.cells.size = sz) (h0 : 0 < sz) :
    RowR L S w (AL.zrep n (z.cells.toList.map constAV)) ((Array.range (n * sz)).map (fun i => z.cells[i % z.cells.size]!)) where
  len := by simp [AL.zrep, hsz]
  val := fun j x hx => by
    simp only [AL.zrep, List.getElem?_map, List.length_map, Array.length_toList, hsz] at hx
    by_cases hj : j < n * sz
    · rw [List.getElem?_range hj] at hx
      simp only [Option.map_some, Option.some.injEq] at hx
      have hm : j % sz < sz := Nat.mod_lt _ h0
      refine ⟨z.cells[j % sz]!, ?_, ?_⟩
      · simp [hj, hsz]
      · subst hx
        have h1 : z.cells.toList[j % sz]? = some z.cells[j % sz]! := by
          have : j % sz < z.cells.size := by omega
          simp [this]
        simp only [List.getD, List.getElem?_map, h1, Option.map_some, Option.getD_some]
        exact .const _ _ _ _
    · rw [List.getElem?_eq_none (by simp; omega)] at hx; simp at hx

theorem run_elem {P : Program} {t e : TypeId} {sz bytes : Nat} (h : elemOfT P t = some (e, sz, bytes)) : P.underlying t = some (.slice e) ∧ ∃ i, P.info? e = some i ∧ i.size = sz ∧ i.bytes = bytes := by
  unfold elemOfT at h
  split at h
  · rename_i e' hu
    cases hi : P.info? e' with
    | none => simp [hi] at h
    | some i => simp [hi] at h; obtain ⟨rfl, rfl, rfl⟩ := h; exact ⟨hu, i, hi, rfl, rfl⟩
  · cases h

theorem build_sound {P : Program} {L : Lay} {S : Nat → Prop} {w : World} {t : TypeId} {ps : List (Nat × AV)} {us : List (Nat × Value)} {v : AV} (h : aBuild P t ps = some v)
    (hl : us.length = ps.length) (hv : ∀ (j : Nat) (p : Nat × AV) (q : Nat × Value), ps[j]? = some p → us[j]? = some q → p.1 = q.1 ∧ VR L S w p.2 q.2) :
    ∃ u, (Instr.build t us.toArray).run P w = .ok u w ∧ VR L S w v u := by
  unfold aBuild at h
  have fin : ∀ {ys : List AV} {cur : Array Value}, RowR L S w ys cur → VR L S w (.agg ys) (.agg cur) := fun {ys cur} hr => by
    have := VR.agg (L := L) (S := S) (w := w) (xs := ys) cur.toList (by simp [hr.len]) (fun j x u hx hu => by
      obtain ⟨u', h1, h2⟩ := hr.val j x hx
      have h3 : cur[j]? = some u := by simpa using hu
      rw [h1] at h3; exact Option.some.inj h3 ▸ h2)
    simpa using this
  split at h
  · rename_i zs fields hz hu
    obtain ⟨z, hrun, rfl, _⟩ := run_zero hz w
    split at h
    · rename_i places hp
      have hplaces : ∀ (l : List Field) (pl : List (Nat × Nat)), l.mapM (fun f => (szOf P f.type).map fun n => (f.offset, n)) = some pl →
          (l.mapM (m := Sem) (fun f => Prod.mk f.offset <$> sizeOf f.type)).run P w = .ok pl w := by
        intro l
        induction l with
        | nil => intro pl h; simp at h; subst h; rfl
        | cons f l ih =>
          intro pl h
          simp only [List.mapM_cons] at h ⊢
          cases hs : szOf P f.type with
          | none => simp [hs] at h
          | some n =>
            cases hr : l.mapM (fun f => (szOf P f.type).map fun n => (f.offset, n)) with
            | none => simp [hs, hr] at h
            | some pl' =>
              simp [hs, hr] at h
              subst h
              simp [run_sizeOf hs, ih pl' hr]
      cases hf : afill (fun i => places[i]?) (z.cells.toList.map constAV) ps with
      | none => simp [hf] at h
      | some ys =>
        simp [hf] at h
        subst h
        obtain ⟨cur', h1, h2⟩ := afill_sound (fun i => places[i]?) ps us _ ys _ hl hv (RowR.zero z) hf
        refine ⟨.agg cur', ?_, fin h2⟩
        have hm : (fields.mapM (m := Sem) (fun f => Prod.mk f.offset <$> sizeOf f.type)).run P w = .ok places.toArray w := by
          have := hplaces fields.toList places hp
          rw [Array.mapM_eq_mapM_toList]
          simp only [Sem.run_map, this, Result.andThen_ok]
        have h1' : Instr.fill (fun x => places[x]?) z.cells us = some cur' := h1
        simp [Instr.build, hrun, run_underlying hu, hm, h1']
    · cases h
  · rename_i zs n e hz hu
    obtain ⟨z, hrun, rfl, _⟩ := run_zero hz w
    split at h
    · rename_i sz hsz
      cases hf : afill (fun i => some (i * sz, sz)) (z.cells.toList.map constAV) ps with
      | none => simp [hf] at h
      | some ys =>
        simp [hf] at h
        subst h
        obtain ⟨cur', h1, h2⟩ := afill_sound (fun i => some (i * sz, sz)) ps us _ ys _ hl hv (RowR.zero z) hf
        refine ⟨.agg cur', ?_, fin h2⟩
        simp [Instr.build, hrun, run_underlying hu, run_sizeOf hsz, h1]
    · cases h
  · cases h
end Go.AL
namespace Go.AL
open Go

theorem range0 (f : Nat → Value) : Array.map f (Array.range 0) = #[] := by
  apply Array.ext'
  simp

theorem VR.sl_new {L : Lay} {S : Nat → Prop} {w : World} {k : Key} {b tot sz n c : Nat} (hL : L k = some ⟨some b, 0, tot⟩) (ht : c * sz ≤ tot) (hn : n ≤ c) :
    VR L S w (.sl k 0 sz 0 n) (.slice (some ⟨b, 0, none⟩) n c) := .sl hL rfl rfl (by simp; exact ht) hn

/-- A new row of memory as a slice: a new object, or stable from the first. -/
theorem newArr_sound {P : Program} {B : Base} {L : Lay} {S : Nat → Prop} {H H' : AH} {w w' : World} (hr : HR B L S H w) {ann : Ann} {d : Nat} {e : TypeId} {sz n c : Nat} {xs : List AV} {v : AV}
    (h : newArr P ann d e sz n xs H = some (v, H')) {cur : Array Value} (hw : NewBlock w w' (.cells cur e)) (hl : xs.length ≤ cur.size) (hc : c * sz = cur.size) (hn : n ≤ c)
    (hv : ∀ (j : Nat) (x : AV), xs[j]? = some x → ∃ u, cur[j]? = some u ∧ VR L S w x u) :
    ∃ L', VR L' S w' v (.slice (some ⟨w.heap.size, 0, none⟩) n c) ∧ Step B L S w L' S H' w' := by
  unfold newArr at h
  cases hn' : H.new ann d (.cells 0 e xs) with
  | none => simp [hn'] at h
  | some p =>
    obtain ⟨k, H1⟩ := p
    simp [hn'] at h
    obtain ⟨rfl, rfl⟩ := h
    exact ⟨_, .sl_new (Lay.set_same ..) (Nat.le_of_eq hc) hn, new_cells hr hn' hw hl hv⟩

theorem buildSlice_sound {P : Program} {B : Base} {L : Lay} {S : Nat → Prop} {H H' : AH} {w : World} (hr : HR B L S H w) {ann : Ann} {dst : Option Tmp} {t : TypeId} {n : Nat} {ps : List (Nat × AV)} {us : List (Nat × Value)}
    {v : AV} (h : aBuildSlice P ann dst t n ps H = some (v, H')) (hl : us.length = ps.length)
    (hv : ∀ (j : Nat) (p : Nat × AV) (q : Nat × Value), ps[j]? = some p → us[j]? = some q → p.1 = q.1 ∧ VR L S w p.2 q.2) :
    ∃ u w' L' S', (Instr.buildSlice t n us.toArray).run P w = .ok u w' ∧ VR L' S' w' v u ∧ Step B L S w L' S' H' w' := by
  unfold aBuildSlice at h
  split at h
  · rename_i e sz bytes d he
    obtain ⟨hu, i, hi, rfl, rfl⟩ := run_elem he
    split at h
    · rename_i zs hz
      split at h
      · rename_i hc
        obtain ⟨h24, hzl, h0⟩ := hc
        obtain ⟨z, hrun, rfl, i', hi', hz'⟩ := run_zero hz w
        split at h
        · rename_i cs hf
          have hzs : z.cells.size = i.size := by simpa using hzl
          obtain ⟨cur', h1, h2⟩ := afill_sound (fun j => some (j * i.size, i.size)) ps us _ cs _ hl hv (RowR.zrep (L := L) (S := S) (w := w) z n i.size hzs h0) hf
          have hlen : ∀ (ps : List (Nat × AV)) (xs ys : List AV), afill (fun j => some (j * i.size, i.size)) xs ps = some ys → ys.length = xs.length := by
            intro ps
            induction ps with
            | nil => intro xs ys h; simp only [afill] at h; cases h; rfl
            | cons p ps ih =>
              intro xs ys h
              simp only [afill] at h
              split at h
              · cases h
              · rw [ih _ _ h]
                have : ∀ (l : List (AV × Nat)) (xs : List AV), (l.foldl (fun cs q => cs.set (p.1 * i.size + q.2) q.1) xs).length = xs.length := by
                  intro l
                  induction l with
                  | nil => intro xs; rfl
                  | cons a l ih => intro xs; rw [List.foldl_cons, ih]; simp
                exact this _ _
          have hcl : cs.length = n * i.size := by
            rw [hlen _ _ _ hf]; simp [zrep, hzs]
          have hcur : cur'.size = n * i.size := by rw [← h2.len, hcl]
          have hfill : Instr.fill (fun j => some (j * i.size, i.size)) ((Array.range (n * i.size)).map ((if n * i.size = 0 then #[] else z.cells : Array Value)[· % (if n * i.size = 0 then #[] else z.cells : Array Value).size]!)) us = some cur' := by
            rw [← h1]
            by_cases hz0 : n * i.size = 0
            · simp [hz0, range0]
            · simp [hz0]
          have hrunall : (Instr.buildSlice t n us.toArray).run P w = .ok (.slice (some ⟨w.heap.size, 0, none⟩) n n) (w.alloc (.cells cur' e)) := by
            have h24' : ¬ (n * i.size > 2 ^ 24) := by simp; omega
            have hs : szOf P e = some i.size := by simp [szOf, hi]
            unfold Instr.buildSlice
            simp only [Sem.run_bind, run_underlying hu, Result.andThen_ok, run_sizeOf hs, if_neg h24']
            by_cases hz0 : n * i.size = 0
            · simp [hz0, range0] at hfill
              simp [hz0, range0, hfill, newRow]
            · simp [hz0] at hfill
              simp [hz0, hfill, hrun, newRow]
          split at h
          · obtain ⟨L', h3, h4⟩ := newArr_sound (c := n) hr h (NewBlock.alloc w (.cells cur' e)) (by rw [h2.len]; omega) hcur.symm (Nat.le_refl _) h2.val
            exact ⟨_, _, L', S, hrunall, h3, h4⟩
          · cases h
            have hst := stable_new hr (NewBlock.alloc w (.cells cur' e))
            refine ⟨_, _, L, _, hrunall, ?_, hst⟩
            refine VR.vs_new (NewBlock.alloc w (.cells cur' e)).new (.inr rfl) (Nat.le_refl _) (by rw [h2.len]; omega) fun j x hx => ?_
            obtain ⟨u, h5, h6⟩ := h2.val j x hx
            exact ⟨u, h5, h6.mono (Lay.le_refl _) (fun _ h => .inl h) hst.kept⟩
        · cases h
      · cases h
    · cases h
  · cases h

theorem makeSlice_sound {P : Program} {B : Base} {L : Lay} {S : Nat → Prop} {H H' : AH} {w : World} (hr : HR B L S H w) {ann : Ann} {dst : Option Tmp} {t : TypeId} {n c v : AV} {un uc : Value}
    (h : aMakeSlice P ann dst t n c H = some (v, H')) (hn : VR L S w n un) (hc : VR L S w c uc) :
    ∃ u w' L', (Instr.makeSlice t un uc).run P w = .ok u w' ∧ VR L' S w' v u ∧ Step B L S w L' S H' w' := by
  unfold aMakeSlice at h
  split at h
  · rename_i e sz bytes d kn n kc c he
    obtain ⟨hu, i, hi, rfl, rfl⟩ := run_elem he
    cases hn
    cases hc
    split at h
    · rename_i zs hz
      split at h
      · rename_i hcond
        obtain ⟨hn0, hnc, hcb, hc62, hzl, h0⟩ := hcond
        obtain ⟨z, hrun, rfl, _⟩ := run_zero hz w
        have hzs : z.cells.size = i.size := by simpa using hzl
        have hzr := RowR.zrep (L := L) (S := S) (w := w) z c.toNat i.size hzs h0
        have hwc : IntKind.i64.wrap c = c := IntWalk.i64_in c ⟨by omega, by omega⟩
        have hwn : IntKind.i64.wrap n = n := IntWalk.i64_in n ⟨by omega, by omega⟩
        have hb0 : (0 : Int) ≤ c * i.bytes := Int.mul_nonneg (by omega) (by omega)
        have hrunall : (Instr.makeSlice t (.int kn n) (.int kc c)).run P w = .ok (.slice (some ⟨w.heap.size, 0, none⟩) n.toNat c.toNat)
            (w.alloc (.cells ((Array.range (c.toNat * i.size)).map (fun j => z.cells[j % z.cells.size]!)) e)) := by
          have hs : szOf P e = some i.size := by simp [szOf, hi]
          have hcond : ((decide (c < 0) || decide ((i.bytes : Int) * c > 2 ^ 48)) || decide (n < 0) || decide (n > c)) = false := by
            have : ¬ ((i.bytes : Int) * c > 2 ^ 48) := by rw [Int.mul_comm]; omega
            simp only [Bool.or_eq_false_iff, decide_eq_false_iff_not]
            exact ⟨⟨⟨by omega, this⟩, by omega⟩, by omega⟩
          unfold Instr.makeSlice
          simp only [Sem.run_bind, run_underlying hu, Result.andThen_ok, asInt, asIntOf, Sem.run_pure, hwc, hwn, run_typeInfo hi, hcond, Bool.false_eq_true, if_false, run_askRoom, run_sizeOf hs]
          by_cases hz0 : c.toNat * i.size = 0
          · simp [hz0, newRow, range0]
          · simp [hz0, hrun, newRow]
        obtain ⟨L', h3, h4⟩ := newArr_sound (c := c.toNat) hr h (NewBlock.alloc w _) (Nat.le_of_eq hzr.len) (by simp) (by omega) hzr.val
        exact ⟨_, _, L', hrunall, h3, h4⟩
      · cases h
    · cases h
  · cases h
end Go.AL
namespace Go.AL
open Go

theorem aCells_src {P : Program} {B : Base} {L : Lay} {S : Nat → Prop} {H : AH} {w : World} (hr : HR B L S H w) {sz m : Nat} {y : AV} {ys : List AV} {u : Value} (h : aCells H sz y = some (m, ys)) (hy : VR L S w y u)
    (hone : ys.all AV.one = true) {tx e' : TypeId} (hk : P.underlying tx = some (.slice e')) : ∃ news, Src P sz tx u m news w ∧ VRs L S w ys news := by
  have empty : ∀ (a : Option Addr) (c : Nat), Src P sz tx (.slice a 0 c) 0 [] w := fun a c => by
    cases a with
    | none => exact .ofNil w hk c
    | some a => exact .ofSlice w hk a 0 c [] (by simp) (by simp) (by simp)
  have vnil : VRs L S w [] [] := ⟨rfl, by simp⟩
  have ones : ∀ {news : List Value}, VRs L S w ys news → ∀ v ∈ news, v.oneCell' = true := by
    intro news hv v hm
    obtain ⟨j, hj⟩ := List.mem_iff_getElem?.1 hm
    have hlt : j < ys.length := by rw [← hv.1]; exact (List.getElem?_eq_some_iff.1 hj).1
    exact (hv.2 j _ v (List.getElem?_eq_getElem hlt) hj).one (List.all_eq_true.1 hone _ (List.getElem_mem hlt))
  unfold aCells at h
  split at h
  · cases h; cases hy; exact ⟨[], empty none 0, vnil⟩
  · rename_i n xs
    split at h
    · rename_i hlen
      cases h
      cases hy with
      | vs0 a cap => exact ⟨[], empty a cap, vnil⟩
      | vs hS hcap us hl hc hv => exact ⟨us, .ofSlice w hk _ _ _ us (by rw [hl, hlen]) (fun j v hj => by rw [Addr.add_eq]; exact hc j v hj) (ones ⟨hl, hv⟩), ⟨hl, hv⟩⟩
    · cases h
  · rename_i k g sz' off len
    split at h
    · rename_i g' e xs hget
      split at h
      · rename_i hc
        obtain ⟨rfl, rfl, hfit⟩ := hc
        cases h
        obtain ⟨r, hL, hor⟩ := hr.obj _ _ hget
        cases hy with
        | slStale h1 h2 a n c => rw [hL] at h1; cases h1; have := hor.gen; simp [AObj.gen] at this; omega
        | slEnd h1 h2 h3 a =>
          refine ⟨[], empty a 0, ?_⟩
          simpa using vnil
        | slNone h1 h2 h3 =>
          refine ⟨[], empty none 0, ?_⟩
          simpa using vnil
        | @sl _ _ _ _ len r' b cap h1 h2 h3 h4 h5 =>
          rw [hL] at h1; cases h1
          obtain ⟨cur, hw, hcs, hle, hg, hca, _⟩ := cellsAt_obj hr hget hL h3
          have hca' := (hca.drop off).take (m * sz)
          have hl : (((cur.toList.take xs.length).drop off).take (m * sz)).length = m * sz := by rw [hca'.len]; simp; omega
          refine ⟨_, .ofSlice w hk ⟨b, off, none⟩ m cap _ hl (fun j v hj => ?_) (ones ⟨hca'.len, hca'.val⟩), ⟨hca'.len, hca'.val⟩⟩
          rw [Addr.add_eq]
          have := hca'.cell j v hj
          simpa using this
      · cases h
    · cases h
  · cases h

theorem VRs.get {L : Lay} {S : Nat → Prop} {w : World} {xs : List AV} {us : List Value} (h : VRs L S w xs us) {j : Nat} {x : AV} (hx : xs[j]? = some x) : ∃ u, us[j]? = some u ∧ VR L S w x u := by
  have hj : j < us.length := by rw [h.1]; exact (List.getElem?_eq_some_iff.1 hx).1
  exact ⟨us[j], List.getElem?_eq_getElem hj, h.2 j x _ hx (List.getElem?_eq_getElem hj)⟩

/-- There is room: the cells are written behind the slice's end. -/
theorem run_append_room' {P : Program} (w : World) (t tx ty e e2 : TypeId) (i : TypeInfo) (ht : P.underlying t = some (.slice e)) (hi : P.info? e = some i) (b sLen sCap : Nat) (x : Value) (n : Nat) (news : List Value)
    (hs : Src P i.size tx x n news w) (cur : Array Value) (hw : w.heap[b]? = some (.cells cur e2 (0, 0))) (hroom : sLen + n ≤ sCap) (hcur : sCap * i.size ≤ cur.size) :
    (Builtin.append_ #[t, tx] ty #[.slice (some ⟨b, 0, none⟩) sLen sCap, x]).run P w =
      .ok (.slice (some ⟨b, 0, none⟩) (sLen + n) sCap) (w.setRow b (cur.toList.take (sLen * i.size) ++ news ++ cur.toList.drop (sLen * i.size + news.length)).toArray) := by
  have hfit : sLen * i.size + 0 + news.length ≤ cur.size := by
    rw [hs.newsLen, Nat.add_zero, ← Nat.add_mul]; exact Nat.le_trans (Nat.mul_le_mul_right _ hroom) hcur
  have hst := run_storeCells_at P b (sLen * i.size) e2 news 0 cur w hw hfit hs.one
  simp only [Nat.add_zero] at hst
  rcases hs.kind with ⟨e', hk⟩ | hk <;> simp [Builtin.append_, run_underlying ht, run_underlying hk, sizeOf, typeInfo, hi, hs.len, hroom, hs.cells, Addr.add_eq, hst]

theorem run_append_none0 {P : Program} (w : World) (t tx ty e : TypeId) (i : TypeInfo) (ht : P.underlying t = some (.slice e)) (hi : P.info? e = some i) (x : Value) (news : List Value)
    (hs : Src P i.size tx x 0 news w) : (Builtin.append_ #[t, tx] ty #[.slice none 0 0, x]).run P w = .ok (.slice none 0 0) w := by
  rcases hs.kind with ⟨e', hk⟩ | hk <;> simp [Builtin.append_, run_underlying ht, run_underlying hk, sizeOf, typeInfo, hi, hs.len, hs.cells]

theorem append_sound {P : Program} {B : Base} {L : Lay} {S : Nat → Prop} {H H' : AH} {w : World} (hr : HR B L S H w) {ann : Ann} {dst : Option Tmp} {t tx ty : TypeId} {x y v : AV} {ux uy : Value}
    (h : aAppend P ann dst t tx x y H = some (v, H')) (hx : VR L S w x ux) (hy : VR L S w y uy) :
    ∃ u w' L', (Builtin.append_ #[t, tx] ty #[ux, uy]).run P w = .ok u w' ∧ VR L' S w' v u ∧ Step B L S w L' S H' w' := by
  unfold aAppend at h
  split at h
  · rename_i e sz bytes p d he hp
    obtain ⟨hu, i, hi, rfl, rfl⟩ := run_elem he
    obtain ⟨hu2, _⟩ := run_elem (e := p.1) (sz := p.2.1) (bytes := p.2.2) hp
    split at h
    · rename_i m ys hcells
      split at h
      · rename_i hc
        obtain ⟨hone, h0, hzl⟩ := hc
        obtain ⟨news, hsrc, hvs⟩ := aCells_src (P := P) hr hcells hy hone hu2
        cases hzc : zcells P e with
        | none => simp [hzc] at hzl
        | some zs =>
          obtain ⟨z, hrun, rfl, i', hi', hz'⟩ := run_zero hzc w
          rw [hi] at hi'; cases hi'
          have hzs : z.cells.size = i.size := by simpa [hzc] using hzl
          have hnl : news.length = m * i.size := hsrc.newsLen
          -- a new row
          have grow : ∀ (base : Option Addr) (sLen sCap : Nat) (olds : List Value) (xs : List AV), (Builtin.firstCells i.size sLen (.slice base sLen sCap)).run P w.drew = .ok olds.toArray w.drew →
              VRs L S w xs olds → xs.length = sLen * i.size → sCap < sLen + m → (sLen + m) * i.bytes ≤ 140737488355328 → sLen + m ≤ 9223372036854775807 →
              ∃ cur c, (Builtin.append_ #[t, tx] ty #[.slice base sLen sCap, uy]).run P w = .ok (.slice (some ⟨w.heap.size, 0, none⟩) (sLen + m) c) (w.drew.alloc (.cells cur e)) ∧
                c * i.size = cur.size ∧ sLen + m ≤ c ∧ (xs ++ ys).length ≤ cur.size ∧ (∀ (j : Nat) (x : AV), (xs ++ ys)[j]? = some x → ∃ u, cur[j]? = some u ∧ VR L S w x u) ∧ ∀ (j : Nat) (u : Value), olds[j]? = some u → cur[j]? = some u := by
            intro base sLen sCap olds xs hold hxs hxl hlt hb hm
            have hrun := run_append_grow_src (P := P) w t tx ty e i z hu hi hz' base sLen sCap olds hold uy m news hsrc hlt (by omega) (growslice_fits (by omega) hb)
            have hge := grownCap_ge w (sLen + m) sCap e
            have hol : olds.length = sLen * i.size := by rw [hxs.1, hxl]
            refine ⟨_, _, hrun, ?_, hge, ?_, ?_, ?_⟩
            · simp only [Array.size_append, List.size_toArray, List.length_append, size_zeroCells, hzs, hol, hnl, ← Nat.add_mul]
              congr 1; omega
            · simp only [List.length_append, Array.size_append, List.size_toArray, hxl, hvs.1.symm, hol]; omega
            · intro j x hx
              by_cases hj : j < xs.length
              · rw [List.getElem?_append_left hj] at hx
                obtain ⟨u, h1, h2⟩ := hxs.get hx
                refine ⟨u, ?_, h2⟩
                rw [Array.getElem?_append_left (by simp; rw [hxs.1]; omega)]
                simp only [List.getElem?_toArray]
                rw [List.getElem?_append_left (by rw [hxs.1]; exact hj)]
                exact h1
              · rw [List.getElem?_append_right (by omega)] at hx
                obtain ⟨u, h1, h2⟩ := hvs.get hx
                refine ⟨u, ?_, h2⟩
                have hj2 := (List.getElem?_eq_some_iff.1 h1).1
                rw [Array.getElem?_append_left (by simp; rw [hxs.1]; omega)]
                simp only [List.getElem?_toArray]
                rw [List.getElem?_append_right (by rw [hxs.1]; omega), hxs.1]
                exact h1
            · intro j u hu
              have hj := (List.getElem?_eq_some_iff.1 hu).1
              rw [Array.getElem?_append_left (by simp; omega)]
              simp only [List.getElem?_toArray]
              rw [List.getElem?_append_left hj]
              exact hu
          split at h
          · -- nil
            cases hx
            split at h
            · rename_i hm0
              subst hm0
              cases h
              exact ⟨_, _, L, run_append_none0 w t tx ty e i hu hi uy news hsrc, .nil, hr, Lay.le_refl _, fun _ h => h, fun _ _ => rfl⟩
            · rename_i hm0
              split at h
              · rename_i hb
                obtain ⟨cur, c, h1, h2, h3, h4, h5, _⟩ := grow none 0 0 [] [] (run_firstCells_none ..) ⟨rfl, by simp⟩ (by simp) (by omega) (by simpa using hb.1) (by simpa using hb.2)
                simp only [Nat.zero_add, List.nil_append] at h1 h3 h4 h5
                obtain ⟨L', h6, h7⟩ := newArr_sound (c := c) hr h (NewBlock.alloc_drew w (.cells cur e)) h4 h2 h3 h5
                exact ⟨_, _, L', h1, h6, h7⟩
              · cases h
          · rename_i k g sz' off len
            split at h
            · rename_i g' e' xs hget
              split at h
              · rename_i hc
                obtain ⟨rfl, rfl, rfl, rfl, hle, hb, hm, hk⟩ := hc
                cases h
                obtain ⟨r, hL, hor⟩ := hr.obj _ _ hget
                have hrg : r.gen = g := hor.gen
                have hset : ∀ (r' : Reg), r'.gen = g + 1 → ∀ r1, L k = some r1 → r1.gen ≤ r'.gen ∧ (r'.gen = r1.gen → r' = r1) := fun r' h1 r1 h2 => by
                  rw [hL] at h2; cases h2; exact ⟨by omega, fun h => by omega⟩
                have hput := fun (k' : Key) => AH.get_put (o' := .cells (g + 1) e (xs.take (len * i.size) ++ ys)) hget k'
                -- the new row takes the old one's place
                have moved : ∀ (cur : Array Value) (c : Nat), (xs.take (len * i.size) ++ ys).length ≤ cur.size → c * i.size = cur.size → len + m ≤ c →
                    (∀ (j : Nat) (x : AV), (xs.take (len * i.size) ++ ys)[j]? = some x → ∃ u, cur[j]? = some u ∧ VR L S w x u) →
                    (∀ (j : Nat) (x : AV), (xs.take (len * i.size))[j]? = some x → ∃ u, VR (L.at k) S w x u ∧ cur[j]? = some u) →
                    ∃ L', VR L' S (w.drew.alloc (.cells cur e)) (.sl k (g + 1) i.size 0 (len + m)) (.slice (some ⟨w.heap.size, 0, none⟩) (len + m) c) ∧
                      Step B L S w L' S (H.put k (.cells (g + 1) e (xs.take (len * i.size) ++ ys))) (w.drew.alloc (.cells cur e)) := by
                  intro cur c h1 h2 h3 h4 h4'
                  have hw := NewBlock.alloc_drew w (.cells cur e)
                  have hle' : L.le (L.set k ⟨some w.heap.size, g + 1, cur.size⟩) := Lay.le_set (hset _ rfl)
                  have hK : Kept S w (w.drew.alloc (.cells cur e)) := fun b hb => hw.old b (hr.Slt b hb)
                  have hupd := hr.upd (H' := H.put k (.cells (g + 1) e (xs.take (len * i.size) ++ ys))) (w' := w.drew.alloc (.cells cur e)) (k := k) (r' := ⟨some w.heap.size, g + 1, cur.size⟩)
                    (o' := .cells (g + 1) e (xs.take (len * i.size) ++ ys)) hw.os hw.tape hw.output (by rw [hw.size]; omega) (fun b hb _ => hw.old b hb) (hset _ rfl)
                    (fun b hb => by simp at hb; subst hb; exact ⟨by rw [hw.size]; omega, .inl (Nat.le_refl _)⟩)
                    (.cells rfl rfl hw.new rfl h1 (fun j x hx => ?_)) hput
                  · exact ⟨_, .sl (Lay.set_same ..) rfl rfl (by simpa using Nat.le_of_eq h2) h3, hupd.1, hupd.2.1, fun _ h => h, hupd.2.2⟩
                  · by_cases hj : j < (xs.take (len * i.size)).length
                    · rw [List.getElem?_append_left hj] at hx
                      obtain ⟨u, h5, h6⟩ := h4' j x hx
                      exact ⟨u, h6, h5.mono (Lay.at_le hle' k) (fun _ h => h) hK⟩
                    · obtain ⟨u, h5, h6⟩ := h4 j x hx
                      rw [List.getElem?_append_right (by omega)] at hx
                      exact ⟨u, h5, (VR.to_at (k := k) hk hx h6).mono (Lay.at_le hle' k) (fun _ h => h) hK⟩
                cases hx with
                | slStale h1 h2 a n c => rw [hL] at h1; cases h1; omega
                | slEnd h1 h2 h3 a => omega
                | slNone h1 h2 h3 =>
                  rw [hL] at h1; cases h1
                  cases hor with
                  | cells h4 _ _ _ _ _ => rw [h3] at h4; cases h4
                  | none h4 h5 h6 =>
                    by_cases hm0 : m = 0
                    · subst hm0
                      have hys : ys = [] := by
                        have h7 : ys.length = news.length := hvs.1.symm
                        rw [hnl] at h7; simpa using h7
                      subst hys
                      have hupd := hr.upd (H' := H.put k (.cells (g + 1) e [])) (w' := w) (k := k) (r' := ⟨none, g + 1, 0⟩) (o' := .cells (g + 1) e []) rfl rfl rfl (Nat.le_refl _) (fun b hb _ => rfl) (hset _ rfl)
                        (fun b hb => by cases hb) (.none rfl rfl rfl) (by simpa using hput)
                      exact ⟨_, _, _, run_append_none0 w t tx ty e i hu hi uy news hsrc, .slNone (Lay.set_same ..) rfl rfl, by simpa using hupd.1, hupd.2.1, fun _ h => h, hupd.2.2⟩
                    · obtain ⟨cur, c, h1, h2, h3', h4', h5', _⟩ := grow none 0 0 [] [] (run_firstCells_none ..) ⟨rfl, by simp⟩ (by simp) (by omega) (by simpa using hb) (by simpa using hm)
                      obtain ⟨L', h8, h9⟩ := moved cur c (by simpa using h4') h2 h3' (by simpa using h5') (by simp)
                      exact ⟨_, _, L', h1, h8, h9⟩
                | @sl _ _ _ _ _ r' b cap h1 h2 h3 h4 h5 =>
                  rw [hL] at h1; cases h1
                  obtain ⟨cur, hw, hcs, hlecur, hg, hca, hca'⟩ := cellsAt_obj hr hget hL h3
                  have hcap : cap * i.size ≤ cur.size := by rw [hcs]; omega
                  by_cases hroom : len + m ≤ cap
                  · have hrun := run_append_room' (P := P) w t tx ty e e i hu hi b len cap uy m news hsrc cur hw hroom hcap
                    have hfit : len * i.size + news.length ≤ cur.size := by rw [hnl, ← Nat.add_mul]; exact Nat.le_trans (Nat.mul_le_mul_right _ hroom) hcap
                    refine ⟨_, _, L.set k ⟨some b, g + 1, r.tot⟩, hrun, .sl (Lay.set_same ..) rfl rfl h4 hroom, ?_⟩
                    have hK : Kept S w (w.setRow b (cur.toList.take (len * i.size) ++ news ++ cur.toList.drop (len * i.size + news.length)).toArray) := fun b' hb' => setRow_other w b b' _ (fun e => hr.stab k r b hL h3 (e ▸ hb'))
                    have hle' : L.le (L.set k ⟨some b, g + 1, r.tot⟩) := Lay.le_set (hset _ rfl)
                    have hupd := hr.upd (H' := H.put k (.cells (g + 1) e (xs.take (len * i.size) ++ ys))) (w' := w.setRow b (cur.toList.take (len * i.size) ++ news ++ cur.toList.drop (len * i.size + news.length)).toArray)
                      (k := k) (r' := ⟨some b, g + 1, r.tot⟩) (o' := .cells (g + 1) e (xs.take (len * i.size) ++ ys)) rfl rfl rfl (by rw [setRow_size]; exact Nat.le_refl _)
                      (fun b' hb' hne => setRow_other w b b' _ (fun e => hne r hL (e ▸ h3))) (hset _ rfl)
                      (fun b' hb' => by simp at hb'; subst hb'; exact ⟨by rw [setRow_size]; exact hr.lt _ _ _ hL h3, .inr ⟨r, hL, h3⟩⟩)
                      (.cells rfl rfl (setRow_heap w b cur _ e _ hw) ?_ ?_ ?_) hput
                    · exact ⟨hupd.1, hupd.2.1, fun _ h => h, hupd.2.2⟩
                    · simp only [List.size_toArray, List.length_append, List.length_take, List.length_drop, Array.length_toList]; omega
                    · simp only [List.size_toArray, List.length_append, List.length_take, List.length_drop, Array.length_toList, hvs.1.symm]; omega
                    · intro j x hx
                      simp only [List.getElem?_toArray]
                      rw [splice_get _ _ _ _ (by simpa using hfit)]
                      by_cases hj : j < len * i.size
                      · rw [if_pos hj]
                        rw [List.getElem?_append_left (by simp; omega), List.getElem?_take_of_lt hj] at hx
                        have hjx : j < xs.length := (List.getElem?_eq_some_iff.1 hx).1
                        have hj2 : j < cur.toList.length := by simp; omega
                        refine ⟨cur.toList[j], List.getElem?_eq_getElem hj2, ?_⟩
                        have := hca'.val j x cur.toList[j] hx (by rw [List.getElem?_take_of_lt hjx]; exact List.getElem?_eq_getElem hj2)
                        exact this.mono (Lay.at_le hle' k) (fun _ h => h) hK
                      · rw [if_neg hj]
                        have hxl : (xs.take (len * i.size)).length = len * i.size := by simp; omega
                        rw [List.getElem?_append_right (by omega), hxl] at hx
                        obtain ⟨u, h6, h7⟩ := hvs.get hx
                        have hj3 := (List.getElem?_eq_some_iff.1 h6).1
                        rw [if_pos (by omega)]
                        exact ⟨u, h6, (VR.to_at (k := k) hk hx h7).mono (Lay.at_le hle' k) (fun _ h => h) hK⟩
                  · have hca2 := hca.take (len * i.size)
                    have hxl : (xs.take (len * i.size)).length = len * i.size := by simp; omega
                    have hold : (Builtin.firstCells i.size len (.slice (some ⟨b, 0, none⟩) len cap)).run P w.drew = .ok ((cur.toList.take xs.length).take (len * i.size)).toArray w.drew :=
                      run_firstCells_some w.drew i.size len ⟨b, 0, none⟩ len cap _ (by rw [hca2.len, hxl]) (fun j v hj => by
                        rw [Addr.add_eq]; have := hca2.cell j v hj; simpa using this)
                    obtain ⟨cur2, c, h6, h7, h8, h9, h10, h10'⟩ := grow (some ⟨b, 0, none⟩) len cap _ (xs.take (len * i.size)) hold ⟨hca2.len, hca2.val⟩ hxl (by omega) hb hm
                    obtain ⟨L', h11, h12⟩ := moved cur2 c h9 h7 h8 h10 (fun j x hx => by
                      have hca3 := hca'.take (len * i.size)
                      obtain ⟨u, h13, h14⟩ := VRs.get ⟨hca3.len, hca3.val⟩ hx
                      exact ⟨u, h14, h10' j u h13⟩)
                    exact ⟨_, _, L', h6, h11, h12⟩
              · cases h
            · cases h
          · cases h
      · cases h
    · cases h
  · cases h
end Go.AL
