/- The abstract logic over any program: what each operation does. It asks nothing of the program. -/
import Derived.Test.YtcpjmlcfjgbgeaaDoorLa
import Derived.Laws.StructEq
import Derived.Laws.BytesString
import Derived.Lib.ConvBytes
set_option linter.unusedVariables false
set_option linter.unusedSimpArgs false
namespace Go.AL
open Go

section
variable {P : Program} {B : Base} {L : Lay} {S : Nat → Prop} {H : AH} {w : World}

theorem nonnil_sound (hr : HR B L S H w) {p : AV} {u : Value} (h : aNonnil H p = true) (hv : VR L S w p u) : ∃ b o, u = .pointer (some ⟨b, o, none⟩) := by
  unfold aNonnil at h
  cases hp : pcells H p with
  | none => simp [hp] at h
  | some xs => obtain ⟨b, o, us, rfl, _⟩ := pcells_sound hr hp hv; exact ⟨b, o, rfl⟩

theorem fieldAddr_sound {t : TypeId} {p v : AV} {f : Nat} {u : Value} (h : aFieldAddr P t p f = some v) (hv : VR L S w p u) (hnn : ∃ b o, u = .pointer (some ⟨b, o, none⟩)) :
    ∃ x, (Instr.fieldAt t u f).run P w = .ok x w ∧ VR L S w v x := by
  unfold aFieldAddr at h
  split at h
  · rename_i fields hu
    split at h
    · rename_i fd hf
      split at h
      · rename_i n hn
        split at h
        · cases h
        · rename_i hn0
          obtain ⟨b, o, rfl⟩ := hnn
          have hrun : (Instr.fieldAt t (.pointer (some ⟨b, o, none⟩)) f).run P w = .ok (.pointer (some ⟨b, o + fd.offset, none⟩)) w := by
            simp [Instr.fieldAt, run_underlying hu, hf, Instr.sureAddr, fieldPlace, run_sizeOf hn, hn0, Addr.add_eq]
          split at h
          · cases h
            refine ⟨_, hrun, ?_⟩
            cases hv with
            | ptrStale h1 h2 a => exact .ptrStale h1 h2 _
            | ptr h1 h2 h3 => exact .ptr h1 h2 h3
          · cases h
            refine ⟨_, hrun, ?_⟩
            cases hv with
            | vp hS us hl hc hv =>
              have := (CellsAt.mk hl hc hv : CellsAt L S w b o _ us).drop fd.offset
              exact .vp hS _ this.len this.cell this.val
          · cases h
      · cases h
    · cases h
  · cases h

theorem genIs_sound (hr : HR B L S H w) {k : Key} {g : Nat} (h : genIs H k g = true) : ∃ r, L k = some r ∧ r.gen = g := by
  unfold genIs at h
  split at h
  · rename_i o ho
    obtain ⟨r, hL, hor⟩ := hr.obj _ _ ho
    exact ⟨r, hL, by rw [hor.gen]; simpa using h⟩
  · cases h

theorem indexAddr_sound (hr : HR B L S H w) {t : TypeId} {x i v : AV} {ux ui : Value} (h : aIndexAddr P t x i H = some v) (hx : VR L S w x ux) (hi : VR L S w i ui) :
    ∃ y, (Instr.indexAt t ux ui).run P w = .ok y w ∧ VR L S w v y := by
  unfold aIndexAddr at h
  split at h
  · rename_i k n
    cases hi
    split at h
    · rename_i e hu
      split at h
      · rename_i sz len xs hsz
        split at h
        · rename_i hb
          cases h
          cases hx with
          | vs0 a cap => omega
          | @vs _ _ b o cap hS hcap us hl hc hv =>
            refine ⟨.pointer (some ⟨b, o + n.toNat * sz, none⟩), ?_, ?_⟩
            · simp [Instr.indexAt, asIntOf, run_underlying hu, hb.1, hb.2, run_sizeOf hsz, Addr.add_eq]
            · have := (CellsAt.mk hl hc hv : CellsAt L S w b o _ us).drop (n.toNat * sz)
              exact .vp hS _ this.len this.cell this.val
        · cases h
      · rename_i sz k' g sz' off len hsz
        split at h
        · rename_i hb
          obtain ⟨hb1, hb2, rfl, hg⟩ := hb
          cases h
          obtain ⟨r, hL, hrg⟩ := genIs_sound hr hg
          cases hx with
          | slStale h1 h2 a n' c => rw [hL] at h1; cases h1; omega
          | slEnd h1 h2 h3 a => omega
          | slNone h1 h2 h3 => omega
          | @sl _ _ _ _ _ r' b cap h1 h2 h3 h4 h5 =>
            refine ⟨.pointer (some ⟨b, off + n.toNat * sz, none⟩), ?_, .ptr h1 h2 h3⟩
            simp [Instr.indexAt, asIntOf, run_underlying hu, hb1, hb2, run_sizeOf hsz, Addr.add_eq]
        · cases h
      · cases h
    · rename_i len e hu
      split at h
      · rename_i sz xs hsz
        split at h
        · rename_i hb
          cases h
          cases hx with
          | @vp _ b o hS us hl hc hv =>
            refine ⟨.pointer (some ⟨b, o + n.toNat * sz, none⟩), ?_, ?_⟩
            · simp [Instr.indexAt, asIntOf, run_underlying hu, Instr.sureAddr, hb.1, hb.2, run_sizeOf hsz, Addr.add_eq]
            · have := (CellsAt.mk hl hc hv : CellsAt L S w b o _ us).drop (n.toNat * sz)
              exact .vp hS _ this.len this.cell this.val
        · cases h
      · rename_i sz k' g off hsz
        split at h
        · rename_i hb
          cases h
          obtain ⟨r, hL, hrg⟩ := genIs_sound hr hb.2.2
          cases hx with
          | ptrStale h1 h2 a => rw [hL] at h1; cases h1; omega
          | @ptr _ _ _ r' b h1 h2 h3 =>
            refine ⟨.pointer (some ⟨b, off + n.toNat * sz, none⟩), ?_, .ptr h1 h2 h3⟩
            simp [Instr.indexAt, asIntOf, run_underlying hu, Instr.sureAddr, hb.1, hb.2.1, run_sizeOf hsz, Addr.add_eq]
        · cases h
      · cases h
    · cases h
  · cases h

theorem part_sound {t : TypeId} {xs : List AV} {us : List Value} {off : Nat} {v : AV} (h : aPart P t xs off = some v) (hv : VRs L S w xs us) :
    ∃ y, (part t us.toArray off).run P w = .ok y w ∧ VR L S w v y := by
  unfold aPart at h
  split at h
  · rename_i n ha hn
    cases h
    refine ⟨.agg ((us.drop off).take n).toArray, ?_, .agg _ ?_ ?_⟩
    · simp [part, run_isAgg ha, run_sizeOf hn, List.drop_take]
    · simp [hv.1]
    · intro j x u hx hu
      rw [List.getElem?_take] at hx hu
      split at hu
      · rename_i hlt
        simp only [hlt, if_true] at hx
        rw [List.getElem?_drop] at hx hu
        exact hv.2 _ x u hx hu
      · cases hu
  · rename_i ha
    obtain ⟨u, h1, h2⟩ := hv.get h
    exact ⟨u, by simp [part, run_isAgg ha, h1], h2⟩
  · cases h

theorem agg_inv {xs : List AV} {u : Value} (h : VR L S w (.agg xs) u) : ∃ us, u = .agg us.toArray ∧ VRs L S w xs us := by
  cases h with
  | agg us hl hv => exact ⟨us, rfl, hl, hv⟩

theorem index_sound {t : TypeId} {x i v : AV} {ux ui : Value} (h : aIndex P t x i = some v) (hx : VR L S w x ux) (hi : VR L S w i ui) :
    ∃ y, (Instr.index t ux ui).run P w = .ok y w ∧ VR L S w v y := by
  unfold aIndex at h
  split at h
  · rename_i k n
    cases hi
    split at h
    · rename_i len e xs hu
      split at h
      · rename_i sz hsz
        split at h
        · rename_i hb
          obtain ⟨us, rfl, hv⟩ := agg_inv hx
          obtain ⟨y, h1, h2⟩ := part_sound (P := P) h hv
          exact ⟨y, by simp [Instr.index, asIntOf, run_underlying hu, hb.1, hb.2, run_sizeOf hsz, h1], h2⟩
        · cases h
      · cases h
    · rename_i s hu
      cases hx
      split at h
      · rename_i hn
        split at h
        · rename_i b hs
          cases h
          exact ⟨_, by simp [Instr.index, asIntOf, run_underlying hu, hn, hs], .int _ _⟩
        · cases h
      · cases h
    · cases h
  · cases h

theorem field_sound {t : TypeId} {x v : AV} {f : Nat} {ux : Value} (h : aField P t x f = some v) (hx : VR L S w x ux) : ∃ y, (Instr.field t ux f).run P w = .ok y w ∧ VR L S w v y := by
  unfold aField at h
  split at h
  · rename_i fields xs hu
    split at h
    · rename_i fd hf
      obtain ⟨us, rfl, hv⟩ := agg_inv hx
      obtain ⟨y, h1, h2⟩ := part_sound (P := P) h hv
      exact ⟨y, by simp [Instr.field, run_underlying hu, hf, asAgg, h1], h2⟩
    · cases h
  · cases h

/-- A bound of a cut that is there, or isn't. -/
def OptVR (L : Lay) (S : Nat → Prop) (w : World) : Option AV → Option Value → Prop
  | none, none => True
  | some x, some u => VR L S w x u
  | _, _ => False

theorem bounds_sound {len l h : Nat} {lo hi : Option AV} {ulo uhi : Option Value} (hb : aBounds len lo hi = some (l, h)) (h1 : OptVR L S w lo ulo) (h2 : OptVR L S w hi uhi) (isS : Bool) (cap : Nat) (hcap : len ≤ cap) :
    (Instr.sliceBounds isS len cap ulo uhi none).run P w = .ok (l, h, cap) w ∧ l ≤ h ∧ h ≤ len := by
  unfold aBounds at hb
  split at hb
  · rename_i hh ll e1 e2
    split at hb
    · rename_i hc
      cases hb
      refine ⟨?_, by omega, by omega⟩
      have hhi : (match uhi with | some v => Instr.sliceBound v cap (if isS then BoundsCode.sliceAcap else BoundsCode.sliceAlen) | none => (Pure.pure len : Sem Nat)).run P w = .ok hh.toNat w := by
        cases hi with
        | none => cases uhi with
          | none => simp at e1; subst e1; simp
          | some _ => simp [OptVR] at h2
        | some x => cases uhi with
          | none => simp [OptVR] at h2
          | some v =>
            simp only [OptVR] at h2
            cases x <;> simp at e1
            cases h2
            subst e1
            simp [Instr.sliceBound, asIntOf]
            intro hcon; exact absurd (hcon (by omega)) (by omega)
      have hlo : (match ulo with | some v => Instr.sliceBound v hh.toNat BoundsCode.sliceB | none => (Pure.pure 0 : Sem Nat)).run P w = .ok ll.toNat w := by
        cases lo with
        | none => cases ulo with
          | none => simp at e2; subst e2; simp
          | some _ => simp [OptVR] at h1
        | some x => cases ulo with
          | none => simp [OptVR] at h1
          | some v =>
            simp only [OptVR] at h1
            cases x <;> simp at e2
            cases h1
            subst e2
            simp [Instr.sliceBound, asIntOf]
            intro hcon; exact absurd (hcon (by omega)) (by omega)
      unfold Instr.sliceBounds
      cases uhi with
      | none =>
        simp only at hhi
        cases ulo with
        | none => simp at hlo hhi ⊢; omega
        | some v => simp at hhi hlo ⊢; simp [hhi, hlo]
      | some v' =>
        simp only at hhi
        cases ulo with
        | none => simp at hlo hhi ⊢; simp [hhi]; omega
        | some v => simp at hhi hlo ⊢; simp [hhi, hlo]
    · cases hb
  · cases hb
end
end Go.AL
namespace Go.AL
open Go

section
variable {P : Program} {B : Base} {L : Lay} {S : Nat → Prop} {H : AH} {w : World}

theorem aLen_sound (hr : HR B L S H w) {t : TypeId} {x v : AV} {u : Value} {ty : TypeId} (h : aLen P t x H = some v) (hx : VR L S w x u) :
    ∃ y, (Builtin.len_ #[t] ty #[u]).run P w = .ok y w ∧ VR L S w v y := by
  unfold aLen at h
  split at h
  · rename_i s hu; cases h; cases hx; exact ⟨_, by simp [Builtin.len_, run_underlying hu, goInt], .int _ _⟩
  · rename_i n e hu; cases h; exact ⟨_, by simp [Builtin.len_, run_underlying hu, goInt], .int _ _⟩
  · rename_i e n xs hu; cases h; cases hx <;> exact ⟨_, by simp [Builtin.len_, run_underlying hu, goInt], .int _ _⟩
  · rename_i e hu; cases h; cases hx; exact ⟨_, by simp [Builtin.len_, run_underlying hu, goInt], .int _ _⟩
  · rename_i e k g sz off len hu
    split at h
    · rename_i hg
      cases h
      obtain ⟨r, hL, hrg⟩ := genIs_sound hr hg
      cases hx with
      | slStale h1 h2 a n' c => rw [hL] at h1; cases h1; omega
      | slEnd h1 h2 h3 a => exact ⟨_, by simp [Builtin.len_, run_underlying hu, goInt], .int _ _⟩
      | slNone h1 h2 h3 => exact ⟨_, by simp [Builtin.len_, run_underlying hu, goInt], .int _ _⟩
      | sl h1 h2 h3 h4 h5 => exact ⟨_, by simp [Builtin.len_, run_underlying hu, goInt], .int _ _⟩
    · cases h
  · rename_i a b hu; cases h; cases hx; exact ⟨_, by simp [Builtin.len_, run_underlying hu, goInt], .int _ _⟩
  · rename_i a b k g hu
    split at h
    · rename_i g' es hget
      split at h
      · rename_i hg
        subst hg
        cases h
        obtain ⟨r, hL, hor⟩ := hr.obj _ _ hget
        cases hx with
        | mapStale h1 h2 a => rw [hL] at h1; cases h1; have := hor.gen; simp [AObj.gen] at this; omega
        | map h1 h2 h3 =>
          rw [hL] at h1; cases h1
          cases hor with
          | map h4 h5 h6 h7 h8 h9 =>
            rw [h3] at h4; cases h4
            exact ⟨.int .i64 es.length, by simp [Builtin.len_, run_underlying hu, goInt, getObj, Sem.run, h6, h7], .int _ _⟩
      · cases h
    · cases h
  · cases h

theorem slice_sound (hr : HR B L S H w) {t : TypeId} {x v : AV} {lo hi : Option AV} {u : Value} {ulo uhi : Option Value} (h : aSlice P t x lo hi H = some v) (hx : VR L S w x u)
    (h1 : OptVR L S w lo ulo) (h2 : OptVR L S w hi uhi) : ∃ y, (Instr.sliceAt t u ulo uhi none).run P w = .ok y w ∧ VR L S w v y := by
  unfold aSlice at h
  split at h
  · rename_i hu
    split at h
    · rename_i s
      cases hb : aBounds s.size lo hi with
      | none => simp [hb] at h
      | some p =>
        obtain ⟨l, hh⟩ := p
        simp [hb] at h
        subst h
        cases hx
        obtain ⟨h3, _, _⟩ := bounds_sound (P := P) hb h1 h2 false s.size (Nat.le_refl _)
        exact ⟨_, by simp [Instr.sliceAt, Instr.slice, run_underlying hu, h3], .str _⟩
    · cases h
  · rename_i e hu
    split at h
    · rename_i sz n xs hsz
      split at h
      · rename_i l hh hb
        split at h
        · rename_i hfit
          cases h
          cases hx with
          | vs0 a cap =>
            obtain ⟨h3, h4, h5⟩ := bounds_sound (P := P) (cap := cap) hb h1 h2 true (Nat.zero_le _)
            have : l = 0 ∧ hh = 0 := by omega
            obtain ⟨rfl, rfl⟩ := this
            exact ⟨.slice (if cap = 0 then a else Option.map (fun x => x.add 0) a) 0 cap, by simp [Instr.sliceAt, Instr.slice, run_underlying hu, h3, run_sizeOf hsz], by simpa using VR.vs0 _ _⟩
          | @vs _ _ b o cap hS hcap us hl hc hv =>
            · obtain ⟨h3, h4, h5⟩ := bounds_sound (P := P) hb h1 h2 true cap hcap
              have hca := ((CellsAt.mk hl hc hv : CellsAt L S w b o _ us).drop (l * sz)).take ((hh - l) * sz)
              by_cases e : cap = l
              · subst e
                have h6 : hh = cap := by omega
                subst h6
                refine ⟨.slice (some ⟨b, o, none⟩) 0 0, by simp [Instr.sliceAt, Instr.slice, run_underlying hu, h3, run_sizeOf hsz], ?_⟩
                simpa using VR.vs0 _ _
              · refine ⟨.slice (some ⟨b, o + l * sz, none⟩) (hh - l) (cap - l), by simp [Instr.sliceAt, Instr.slice, run_underlying hu, h3, run_sizeOf hsz, e, Addr.add_eq], ?_⟩
                exact .vs hS (by omega) _ hca.len hca.cell hca.val
        · cases h
      · cases h
    · rename_i sz k g sz' off len hsz
      split at h
      · rename_i l hh hb
        split at h
        · rename_i hc
          obtain ⟨rfl, h0, hg⟩ := hc
          cases h
          obtain ⟨r, hL, hrg⟩ := genIs_sound hr hg
          cases hx with
          | slStale h1 h2 a n' c => rw [hL] at h1; cases h1; omega
          | slEnd h3 h4 h5 a =>
            obtain ⟨h6, h7, h8⟩ := bounds_sound (P := P) (cap := 0) hb h1 h2 true (Nat.le_refl _)
            have : l = 0 ∧ hh = 0 := by omega
            obtain ⟨rfl, rfl⟩ := this
            exact ⟨.slice a 0 0, by simp [Instr.sliceAt, Instr.slice, run_underlying hu, h6, run_sizeOf hsz], by simpa using VR.slEnd h3 h4 h5 a⟩
          | slNone h3 h4 h5 =>
            obtain ⟨h6, h7, h8⟩ := bounds_sound (P := P) (cap := 0) hb h1 h2 true (Nat.le_refl _)
            have : l = 0 ∧ hh = 0 := by omega
            obtain ⟨rfl, rfl⟩ := this
            exact ⟨.slice none 0 0, by simp [Instr.sliceAt, Instr.slice, run_underlying hu, h6, run_sizeOf hsz], by simpa using VR.slNone h3 h4 h5⟩
          | @sl _ _ _ _ len r' b cap h3 h4 h5 h6 h7 =>
            obtain ⟨h8, h9, h10⟩ := bounds_sound (P := P) hb h1 h2 true cap h7
            by_cases e : cap = l
            · subst e
              have h11 : hh = cap := by omega
              subst h11
              refine ⟨.slice (some ⟨b, off, none⟩) 0 0, by simp [Instr.sliceAt, Instr.slice, run_underlying hu, h8, run_sizeOf hsz], ?_⟩
              by_cases hz : off + hh * sz = 0
              · have hoff : off = 0 := by omega
                have hh0 : hh = 0 := by
                  rcases Nat.eq_zero_or_pos hh with h | h
                  · exact h
                  · have := Nat.mul_pos h h0; omega
                subst hoff
                subst hh0
                have := VR.sl (L := L) (S := S) (w := w) (len := 0) h3 h4 h5 h6 (Nat.zero_le _)
                simpa using this
              · rw [Nat.sub_self]
                exact .slEnd h3 h4 (by omega) _
            · refine ⟨.slice (some ⟨b, off + l * sz, none⟩) (hh - l) (cap - l), by simp [Instr.sliceAt, Instr.slice, run_underlying hu, h8, run_sizeOf hsz, e, Addr.add_eq], ?_⟩
              refine .sl h3 h4 h5 ?_ (by omega)
              have : (cap - l) * sz + l * sz = cap * sz := by rw [← Nat.add_mul]; congr 1; omega
              omega
        · cases h
      · cases h
    · rename_i sz hsz
      split at h
      · rename_i p hb
        obtain ⟨l, hh⟩ := p
        cases h
        cases hx
        obtain ⟨h6, h7, h8⟩ := bounds_sound (P := P) (cap := 0) hb h1 h2 true (Nat.le_refl _)
        have : l = 0 ∧ hh = 0 := by omega
        obtain ⟨rfl, rfl⟩ := this
        have hs : ∃ n, szOf P e = some n := ⟨_, hsz⟩
        obtain ⟨n, hs⟩ := hs
        exact ⟨.slice none 0 0, by simp [Instr.sliceAt, Instr.slice, run_underlying hu, h6, run_sizeOf hs], .nil⟩
      · cases h
    · cases h
  · rename_i n e hu
    split at h
    · rename_i sz k g off hsz
      split at h
      · rename_i g' e' xs l hh hget hb
        split at h
        · rename_i hc
          obtain ⟨rfl, rfl, hlen, h0⟩ := hc
          cases h
          obtain ⟨r, hL, hor⟩ := hr.obj _ _ hget
          cases hx with
          | ptrStale h3 h4 a => rw [hL] at h3; cases h3; have := hor.gen; simp [AObj.gen] at this; omega
          | @ptr _ _ _ r' b h3 h4 h5 =>
            rw [hL] at h3; cases h3
            obtain ⟨h6, h7, h8⟩ := bounds_sound (P := P) hb h1 h2 false n (Nat.le_refl _)
            obtain ⟨cur, hw, hcs, hle, _, _, _⟩ := cellsAt_obj hr hget hL h5
            by_cases e : n = l
            · subst e
              have h11 : hh = n := by omega
              subst h11
              refine ⟨.slice (some ⟨b, 0, none⟩) 0 0, by simp [Instr.sliceAt, run_underlying hu, Instr.sureAddr, h6, run_sizeOf hsz], ?_⟩
              rw [Nat.sub_self]
              by_cases hz : hh * sz = 0
              · rw [hz]; exact .sl hL h4 h5 (by simp) (Nat.le_refl _)
              · exact .slEnd hL h4 (by omega) _
            · refine ⟨.slice (some ⟨b, l * sz, none⟩) (hh - l) (n - l), by simp [Instr.sliceAt, run_underlying hu, Instr.sureAddr, h6, run_sizeOf hsz, e, Addr.add_eq], ?_⟩
              refine .sl hL h4 h5 ?_ (by omega)
              have : (n - l) * sz + l * sz = n * sz := by rw [← Nat.add_mul]; congr 1; omega
              omega
        · cases h
      · cases h
    · cases h
  · cases h
end
end Go.AL
namespace Go.AL
open Go

section
variable {P : Program} {B : Base} {L : Lay} {S : Nat → Prop} {H : AH} {w : World}

theorem aInt_sound {op : BinOp} {k k' : IntKind} {a b : Int} {v : AV} {t : TypeId} (h : aInt op k k' a b = some v) : ∃ y, (binOp op t (.int k a) (.int k' b)).run P w = .ok y w ∧ VR L S w v y := by
  unfold aInt at h
  cases op <;> simp only [binOp] at h ⊢
  case shl => split at h <;> cases h; rename_i hb; exact ⟨_, by simp [Op.shift, show ¬ b < 0 by omega], .int _ _⟩
  case shr => split at h <;> cases h; rename_i hb; exact ⟨_, by simp [Op.shift, show ¬ b < 0 by omega], .int _ _⟩
  case quo => split at h; cases h; rename_i hk; simp only [hk, if_false]; split at h; cases h; rename_i hb; cases h; exact ⟨_, by simp [Op.intDiv, hb], .int _ _⟩
  case rem => split at h; cases h; rename_i hk; simp only [hk, if_false]; split at h; cases h; rename_i hb; cases h; exact ⟨_, by simp [Op.intDiv, hb], .int _ _⟩
  case add | sub | mul | and | or | xor | andNot => split at h; cases h; rename_i hk; simp only [hk, if_false]; cases h; exact ⟨_, rfl, .int _ _⟩
  case eql | neq | lss | leq | gtr | geq => split at h; cases h; rename_i hk; simp only [hk, if_false]; cases h; exact ⟨_, rfl, .bool _⟩

theorem data_eq (a b : ByteArray) : (a.data.toList == b.data.toList) = (a == b) := by rw [← ByteArray.toList_eq, ← ByteArray.toList_eq]; exact (beq_toListBytes a b).symm

theorem aEq_sound : ∀ (d : Nat) (t : TypeId) (x y : AV) (ux uy : Value) (b : Bool), aEq P d t x y = some b → VR L S w x ux → VR L S w y uy → (Op.equalIn d t ux uy).run P w = .ok b w
  | 0, _, _, _, _, _, _, h, _, _ => by simp [aEq] at h
  | d + 1, t, x, y, ux, uy, b, h, hx, hy => by
    unfold aEq at h
    split at h
    · rename_i hu
      split at h
      · cases h; cases hx; cases hy; simp [Op.equalIn, run_underlying hu]
      · cases h
    · rename_i k0 hu
      split at h
      · split at h
        · rename_i hk; subst hk; cases h; cases hx; cases hy; simp [Op.equalIn, run_underlying hu]
        · cases h
      · cases h
    · rename_i hu
      split at h
      · cases h; cases hx; cases hy; rw [data_eq]; simp [Op.equalIn, run_underlying hu]
      · cases h
    · rename_i fields hu
      split at h
      · rename_i xs ys
        split at h
        · cases h
        · rename_i hp
          obtain ⟨us, rfl, hus⟩ := agg_inv hx
          obtain ⟨ws, rfl, hws⟩ := agg_inv hy
          have hf : P.fieldsOf t = fields := by simp [Program.fieldsOf, hu]
          rw [run_equalIn_struct (P := P) w d t us.toArray ws.toArray (by rw [hf]; exact hu) (by simpa using hp), hf]
          have key : ∀ (fs : List Field) (b : Bool), fs.foldr (fun f r => if f.name = "_" then none else
              match aPart P f.type xs f.offset, aPart P f.type ys f.offset with
              | some u, some v => match aEq P d f.type u v with
                | some b => if b then r else some false
                | none => none
              | _, _ => none) (some true) = some b → (Op.eqFields d us.toArray ws.toArray fs).run P w = .ok b w := by
            intro fs
            induction fs with
            | nil => intro b h; simp at h; subst h; simp [Op.eqFields]
            | cons f fs ih =>
              intro b h
              simp only [List.foldr_cons] at h
              split at h
              · cases h
              · rename_i hn
                split at h
                · rename_i u v hu1 hv1
                  obtain ⟨u', h1, h2⟩ := part_sound (P := P) hu1 hus
                  obtain ⟨v', h3, h4⟩ := part_sound (P := P) hv1 hws
                  split at h
                  · rename_i b' hb
                    have h5 := aEq_sound d f.type u v u' v' b' hb h2 h4
                    simp only [Op.eqFields, if_pos (show f.name ≠ "_" from hn), Sem.run_bind, h1, h3, h5, Result.andThen_ok]
                    cases b' with
                    | true => simp only [if_true] at h; simpa using ih b h
                    | false => simp at h; subst h; simp
                  · cases h
                · cases h
          exact key fields.toList b h
      · cases h
    · cases h

theorem aNilEq_in (hr : HR B L S H w) (d : Nat) {t : TypeId} {x y : AV} {ux uy : Value} {b : Bool} (h : aNilEq P t x y H = some b) (hx : VR L S w x ux) (hy : VR L S w y uy) : (Op.equalIn (d + 1) t ux uy).run P w = .ok b w := by
  unfold aNilEq at h
  split at h
  · rename_i e hu
    split at h
    · cases h; cases hx; cases hy; simp [Op.equalIn, run_underlying hu]
    · split at h
      · rename_i hn
        cases h; cases hx
        obtain ⟨b, o, rfl⟩ := nonnil_sound hr hn hy
        simp [Op.equalIn, run_underlying hu]
      · cases h
    · split at h
      · rename_i hn
        cases h; cases hy
        obtain ⟨b, o, rfl⟩ := nonnil_sound hr hn hx
        simp [Op.equalIn, run_underlying hu]
      · cases h
    · cases h
  · rename_i e hu
    split at h
    · cases h; cases hx; cases hy; simp [Op.equalIn, run_underlying hu]
    · cases h; cases hy
      cases hx
      simp [Op.equalIn, run_underlying hu]
    · split at h
      · rename_i hg
        cases h
        obtain ⟨r, hL, hrg⟩ := genIs_sound hr hg
        cases hy
        cases hx with
        | slStale h1 h2 a n c => rw [hL] at h1; cases h1; omega
        | sl h1 h2 h3 h4 h5 => simp [Op.equalIn, run_underlying hu]
      · cases h
    · cases h
  · rename_i k e hu
    split at h
    · cases h; cases hx; cases hy; simp [Op.equalIn, run_underlying hu]
    · split at h
      · rename_i hg
        cases h
        obtain ⟨r, hL, hrg⟩ := genIs_sound hr hg
        cases hy
        cases hx with
        | mapStale h1 h2 a => rw [hL] at h1; cases h1; omega
        | map h1 h2 h3 => simp [Op.equalIn, run_underlying hu]
      · cases h
    · cases h
  · cases h

theorem aNilEq_sound (hr : HR B L S H w) {t : TypeId} {x y : AV} {ux uy : Value} {b : Bool} (h : aNilEq P t x y H = some b) (hx : VR L S w x ux) (hy : VR L S w y uy) : (Op.equal t ux uy).run P w = .ok b w :=
  aNilEq_in hr 9999 h hx hy

theorem string_eq (a b : ByteArray) : (a.toList == b.toList) = (a == b) := (beq_toListBytes a b).symm

theorem aBin_sound (hr : HR B L S H w) {op : BinOp} {t : TypeId} {x y v : AV} {ux uy : Value} {ox oy : Operand} (h : aBin P op t x y H = some v) (hx : VR L S w x ux) (hy : VR L S w y uy) :
    ∃ z, (do eqGuard op t ox oy ux uy; binOp op t ux uy : Sem Value).run P w = .ok z w ∧ VR L S w v z := by
  have guard0 : ∀ ux uy : Value, ¬ (ux = .nilIface ∧ uy = .nilIface) → (∀ a b, ¬ (ux = .agg a ∧ uy = .agg b)) → (eqGuard op t ox oy ux uy).run P w = .ok () w := by
    intro ux uy h1 h2
    cases ux <;> cases uy <;> first | exact absurd ⟨rfl, rfl⟩ h1 | exact absurd ⟨rfl, rfl⟩ (h2 _ _) | (cases op <;> rfl)
  unfold aBin at h
  split at h
  · cases hx; cases hy
    obtain ⟨z, h1, h2⟩ := aInt_sound (P := P) (L := L) (S := S) (w := w) (t := t) h
    exact ⟨z, by simp [guard0, h1], h2⟩
  · cases hx; cases hy
    split at h
    · cases h; exact ⟨_, by simp [guard0, binOp, Op.stringOp, ByteArray.toList_eq], .bool _⟩
    · cases h; exact ⟨_, by simp [guard0, binOp, Op.stringOp, ByteArray.toList_eq], .bool _⟩
    · split at h
      · rename_i a b _ hs
        cases h
        refine ⟨_, ?_, .str _⟩
        have : ¬ (9223372036854775807 < ((a.size : Int) + (b.size : Int))) := by omega
        simp [guard0, binOp, Op.stringOp, this]
      · cases h
    · cases h
  · rename_i b1 b2
    cases hx; cases hy
    split at h
    · cases he : aEq P 10000 t (.bool b1) (.bool b2) with
      | none => simp [he] at h
      | some r =>
        simp [he] at h; subst h
        have := aEq_sound (P := P) (L := L) (S := S) (w := w) 10000 t _ _ _ _ r he (.bool _) (.bool _)
        exact ⟨_, by simp [guard0, binOp, Op.equal, Op.maxDepth, this], .bool _⟩
    · cases he : aEq P 10000 t (.bool b1) (.bool b2) with
      | none => simp [he] at h
      | some r =>
        simp [he] at h; subst h
        have := aEq_sound (P := P) (L := L) (S := S) (w := w) 10000 t _ _ _ _ r he (.bool _) (.bool _)
        exact ⟨_, by simp [guard0, binOp, Op.equal, Op.maxDepth, this], .bool _⟩
    · cases h
  · rename_i xs ys
    obtain ⟨us, rfl, hus⟩ := agg_inv hx
    obtain ⟨ws, rfl, hws⟩ := agg_inv hy
    split at h
    · cases h
    · rename_i hg
      have guard1 : (eqGuard op t ox oy (.agg us.toArray) (.agg ws.toArray)).run P w = .ok () w := by
        cases op <;> first | rfl | simp [eqGuard, hg]
      split at h
      · cases he : aEq P 10000 t (.agg xs) (.agg ys) with
        | none => simp [he] at h
        | some r =>
          simp [he] at h; subst h
          have := aEq_sound (P := P) 10000 t _ _ _ _ r he hx hy
          exact ⟨_, by simp [guard1, binOp, Op.equal, Op.maxDepth, this], .bool _⟩
      · cases he : aEq P 10000 t (.agg xs) (.agg ys) with
        | none => simp [he] at h
        | some r =>
          simp [he] at h; subst h
          have := aEq_sound (P := P) 10000 t _ _ _ _ r he hx hy
          exact ⟨_, by simp [guard1, binOp, Op.equal, Op.maxDepth, this], .bool _⟩
      · cases h
  · -- nil
    have shape : ∀ r, aNilEq P t x y H = some r → ((∃ a, ux = .pointer a) ∧ (∃ b, uy = .pointer b)) ∨ ((∃ a n c, ux = .slice a n c) ∧ (∃ a n c, uy = .slice a n c)) ∨ ((∃ a, ux = .map a) ∧ (∃ b, uy = .map b)) := by
      intro r hr'
      unfold aNilEq at hr'
      split at hr'
      · split at hr'
        · cases hx; cases hy; exact .inl ⟨⟨_, rfl⟩, ⟨_, rfl⟩⟩
        · split at hr'
          · rename_i hn; obtain ⟨b, o, rfl⟩ := nonnil_sound hr hn hy; cases hx; exact .inl ⟨⟨_, rfl⟩, ⟨_, rfl⟩⟩
          · cases hr'
        · split at hr'
          · rename_i hn; obtain ⟨b, o, rfl⟩ := nonnil_sound hr hn hx; cases hy; exact .inl ⟨⟨_, rfl⟩, ⟨_, rfl⟩⟩
          · cases hr'
        · cases hr'
      · split at hr'
        · cases hx; cases hy; exact .inr (.inl ⟨⟨_, _, _, rfl⟩, ⟨_, _, _, rfl⟩⟩)
        · cases hx; cases hy; exact .inr (.inl ⟨⟨_, _, _, rfl⟩, ⟨_, _, _, rfl⟩⟩)
        · cases hy; cases hx <;> exact .inr (.inl ⟨⟨_, _, _, rfl⟩, ⟨_, _, _, rfl⟩⟩)
        · cases hr'
      · split at hr'
        · cases hx; cases hy; exact .inr (.inr ⟨⟨_, rfl⟩, ⟨_, rfl⟩⟩)
        · cases hy; cases hx <;> exact .inr (.inr ⟨⟨_, rfl⟩, ⟨_, rfl⟩⟩)
        · cases hr'
      · cases hr'
    split at h
    · cases he : aNilEq P t x y H with
      | none => simp [he] at h
      | some r =>
        simp [he] at h; subst h
        have h1 := aNilEq_sound (P := P) hr he hx hy
        rcases shape r he with ⟨⟨a, rfl⟩, ⟨b, rfl⟩⟩ | ⟨⟨a, n, c, rfl⟩, ⟨a', n', c', rfl⟩⟩ | ⟨⟨a, rfl⟩, ⟨b, rfl⟩⟩ <;>
          exact ⟨_, by simp [guard0, binOp, h1], .bool _⟩
    · cases he : aNilEq P t x y H with
      | none => simp [he] at h
      | some r =>
        simp [he] at h; subst h
        have h1 := aNilEq_sound (P := P) hr he hx hy
        rcases shape r he with ⟨⟨a, rfl⟩, ⟨b, rfl⟩⟩ | ⟨⟨a, n, c, rfl⟩, ⟨a', n', c', rfl⟩⟩ | ⟨⟨a, rfl⟩, ⟨b, rfl⟩⟩ <;>
          exact ⟨_, by simp [guard0, binOp, h1], .bool _⟩
    · cases h

theorem aUn_sound {op : UnOp} {x v : AV} {ux : Value} (h : aUn op x = some v) (hx : VR L S w x ux) : ∃ z, (Op.unary op ux).run P w = .ok z w ∧ VR L S w v z := by
  unfold aUn at h
  split at h
  · cases h; cases hx; exact ⟨_, by simp [Op.unary], .bool _⟩
  · cases h; cases hx; exact ⟨_, by simp [Op.unary, Op.intArith], .int _ _⟩
  · cases h; cases hx; exact ⟨_, by simp [Op.unary, Op.intBits], .int _ _⟩
  · cases h
end
end Go.AL
namespace Go.AL
open Go

section
variable {P : Program} {B : Base} {L : Lay} {S : Nat → Prop} {H : AH} {w : World}

theorem intKey_spec {t e : TypeId} (h : intKey P t = some e) : ∃ key k, P.underlying t = some (.map key e) ∧ P.underlying key = some (.int k) := by
  unfold intKey at h
  split at h
  · rename_i key e' hu
    split at h
    · rename_i k hk; cases h; exact ⟨key, k, hu, hk⟩
    · cases h
  · cases h

theorem aFind_sound {k kk : IntKind} {n : Int} : ∀ (es : List (AV × AV)) (ents : List MapEntry) (i : Nat) (r : Option (Nat × AV)), aFind k n es i = some r → ents.length = es.length →
    (∀ (j : Nat) (p : AV × AV) (m : MapEntry), es[j]? = some p → ents[j]? = some m → VR L S w p.1 m.key ∧ VR L S w p.2 m.val) →
    match r with
    | none => Instr.findNow (.int kk) (.int k n) ents i = some none
    | some (j, v) => ∃ u m, Instr.findNow (.int kk) (.int k n) ents i = some (some (j, u)) ∧ VR L S w v u ∧ i ≤ j ∧ ents[j - i]? = some m ∧ m.key = .int k n ∧ j - i < es.length
  | [], ents, i, r, h, hl, hv => by
    cases ents with
    | cons _ _ => simp at hl
    | nil => simp [aFind] at h; subst h; rfl
  | (a, v) :: es, [], i, r, h, hl, hv => by simp at hl
  | (a, v) :: es, m :: ents, i, r, h, hl, hv => by
    obtain ⟨hk, hval⟩ := hv 0 (a, v) m rfl rfl
    cases a <;> simp only [aFind] at h <;> try (cases h; done)
    rename_i k' n'
    split at h
    · rename_i hkk
      subst hkk
      have hmk : m.key = .int k n' := by
        generalize hm : m.key = mk at hk
        cases hk; rfl
      split at h
      · rename_i hn
        subst hn
        cases h
        refine ⟨m.val, m, ?_, hval, Nat.le_refl _, by simp, hmk, by simp⟩
        simp [Instr.findNow, hmk, Instr.sameNow]
      · rename_i hn
        have ih := aFind_sound (kk := kk) es ents (i + 1) r h (by simpa using hl) (fun j p m a b => hv (j + 1) p m (by simpa using a) (by simpa using b))
        have hne : (n == n') = false := by simpa using hn
        have hstep : Instr.findNow (.int kk) (.int k n) (m :: ents) i = Instr.findNow (.int kk) (.int k n) ents (i + 1) := by
          simp [Instr.findNow, hmk, Instr.sameNow, hne]
        cases r with
        | none => simp only at ih ⊢; rw [hstep]; exact ih
        | some q =>
          obtain ⟨j, v'⟩ := q
          obtain ⟨u, m', h1, h2, h3, h4, h5, h6⟩ := ih
          refine ⟨u, m', by rw [hstep]; exact h1, h2, by omega, ?_, h5, by simp; omega⟩
          rw [show j - i = (j - (i + 1)) + 1 by omega]
          simpa using h4
    · cases h

theorem map_obj (hr : HR B L S H w) {k : Key} {g : Nat} {es : List (AV × AV)} (hget : H.get k = some (.map g es)) {u : Value} (hx : VR L S w (.map k g) u) :
    ∃ r b ents clock, u = .map (some b) ∧ L k = some r ∧ r.blk = some b ∧ r.gen = g ∧ w.heap[b]? = some (.map ents clock) ∧ ents.size = es.length ∧
      (∀ (j : Nat) (p : AV × AV) (m : MapEntry), es[j]? = some p → ents.toList[j]? = some m → VR (L.at k) S w p.1 m.key ∧ VR (L.at k) S w p.2 m.val) := by
  obtain ⟨r, hL, hor⟩ := hr.obj _ _ hget
  cases hx with
  | mapStale h1 h2 a => rw [hL] at h1; cases h1; have := hor.gen; simp [AObj.gen] at this; omega
  | @map _ _ r' b h1 h2 h3 =>
    rw [hL] at h1; cases h1
    cases hor with
    | map h4 h5 h6 h7 h8 h9 =>
      rw [h3] at h4; cases h4
      exact ⟨r, b, _, _, rfl, hL, h3, h2, h6, h7, fun j p m a b => ⟨h8 j p m a (by simpa using b), h9 j p m a (by simpa using b)⟩⟩

theorem run_findKey {key : TypeId} {kk k : IntKind} {n : Int} (hk : P.underlying key = some (.int kk)) {ents : List MapEntry} {r : Option (Nat × Value)} (h : Instr.findNow (.int kk) (.int k n) ents 0 = some r) :
    (Instr.findKey key (.int k n) ents).run P w = .ok r w := by
  simp [Instr.findKey, run_underlying hk, h]
theorem run_checkKey {key : TypeId} {kk k : IntKind} {n : Int} (hk : P.underlying key = some (.int kk)) (e : Bool) (d : Nat) : (Instr.checkKey e (d + 1) key (.int k n)).run P w = .ok () w := by
  simp [Instr.checkKey, run_underlying hk]

theorem lookup_sound (hr : HR B L S H w) {t : TypeId} {m i v : AV} {ok : Bool} {um ui : Value} (h : aLookup P t m i ok H = some v) (hm : VR L S w m um) (hi : VR L S w i ui) :
    ∃ y, (Instr.lookup t um ui ok).run P w = .ok y w ∧ VR L S w v y := by
  unfold aLookup at h
  split at h
  · rename_i e k n he
    obtain ⟨key, kk, hu, hk⟩ := intKey_spec he
    cases hi
    split at h
    · rename_i z hz
      obtain ⟨zv, hzrun, hz1⟩ : ∃ zv, (zeroValue e).run P w = .ok zv w ∧ VR L S w z zv := by
        unfold zval at hz
        cases hi : P.info? e with
        | none => simp [hi] at hz
        | some i =>
          cases hzz : i.zero with
          | none => simp [hi, hzz] at hz
          | some zv => simp [hi, hzz] at hz; exact ⟨zv, by simp [zeroValue, typeInfo, hi, hzz], hz ▸ .const _ _ _ _⟩
      split at h
      · rename_i r hfind
        cases h
        split at hfind
        · cases hfind
          cases hm
          have hrun : (Instr.lookup t (.map none) (.int k n) ok).run P w = .ok (if ok then .tuple #[zv, .bool false] else zv) w := by
            have hck := run_checkKey (P := P) (w := w) (k := k) (n := n) hk true 9999
            have hfk := run_findKey (P := P) (w := w) (key := key) (k := k) (n := n) (ents := []) (r := none) hk rfl
            simp [Instr.lookup, run_underlying hu, hck, hfk, hzrun]
          refine ⟨_, hrun, ?_⟩
          cases ok with
          | false => simpa using hz1
          | true =>
            simp only [Option.getD_none, Option.isSome_none, if_true]
            exact VR.tup [zv, .bool false] rfl fun j x u h1 h2 => by
              match j with
              | 0 => simp at h1 h2; subst h1; subst h2; exact hz1
              | 1 => simp at h1 h2; subst h1; subst h2; exact .bool _
              | j + 2 => simp at h1
        · rename_i κ g
          split at hfind
          · rename_i g' es hget
            split at hfind
            · rename_i hg
              subst hg
              obtain ⟨rg, b, ents, clock, rfl, hL, hb, hgen, hw, hsz, hval⟩ := map_obj hr hget hm
              cases hf : aFind k n es 0 with
              | none => simp [hf] at hfind
              | some q =>
                simp [hf] at hfind
                subst hfind
                have hfs := aFind_sound (kk := kk) es ents.toList 0 q hf (by simpa using hsz) (fun j p m a b => ⟨(hval j p m a b).1.of_at, (hval j p m a b).2.of_at⟩)
                have hck := run_checkKey (P := P) (w := w) (k := k) (n := n) hk ents.isEmpty 9999
                cases q with
                | none =>
                  have hfk := run_findKey (P := P) (w := w) (key := key) hk hfs
                  refine ⟨if ok then .tuple #[zv, .bool false] else zv, by simp [Instr.lookup, run_underlying hu, getObj, Sem.run, hw, hck, hfk, hzrun], ?_⟩
                  cases ok with
                  | false => simpa using hz1
                  | true =>
                    simp only [Option.map_none, Option.getD_none, Option.isSome_none, if_true]
                    exact VR.tup [zv, .bool false] rfl fun j x u h1 h2 => by
                      match j with
                      | 0 => simp at h1 h2; subst h1; subst h2; exact hz1
                      | 1 => simp at h1 h2; subst h1; subst h2; exact .bool _
                      | j + 2 => simp at h1
                | some p =>
                  obtain ⟨j, v'⟩ := p
                  obtain ⟨u, m', h1, h2, _⟩ := hfs
                  have hfk := run_findKey (P := P) (w := w) (key := key) hk h1
                  refine ⟨if ok then .tuple #[u, .bool true] else u, by simp [Instr.lookup, run_underlying hu, getObj, Sem.run, hw, hck, hfk, hzrun], ?_⟩
                  cases ok with
                  | false => simpa using h2
                  | true =>
                    simp only [Option.map_some, Option.getD_some, Option.isSome_some, if_true]
                    exact VR.tup [u, .bool true] rfl fun j x u' h3 h4 => by
                      match j with
                      | 0 => simp at h3 h4; subst h3; subst h4; exact h2
                      | 1 => simp at h3 h4; subst h3; subst h4; exact .bool _
                      | j + 2 => simp at h3
            · cases hfind
          · cases hfind
        · cases hfind
      · cases h
    · cases h
  · cases h
end
end Go.AL
namespace Go.AL
open Go

section
variable {P : Program} {B : Base} {L : Lay} {S : Nat → Prop} {H : AH} {w : World}

def World.setMap (w : World) (b : Nat) (ents : Array MapEntry) (clock : Nat) : World := { w with heap := w.heap.setIfInBounds b (.map ents clock) }

theorem run_setObj_map {b : Nat} {ents ents' : Array MapEntry} {clock clock' : Nat} (h : w.heap[b]? = some (.map ents clock)) :
    (setObj b (.map ents' clock')).run P w = .ok () (World.setMap w b ents' clock') := by
  simp [setObj, Sem.run, h, World.setMap]

/-- A map's entries turn. -/
theorem map_upd (hr : HR B L S H w) {k : Key} {g : Nat} {es es' : List (AV × AV)} {r : Reg} {b : Nat} {ents ents' : Array MapEntry} {clock clock' : Nat} (hget : H.get k = some (.map g es)) (hL : L k = some r) (hb : r.blk = some b) (hg : r.gen = g)
    (hw : w.heap[b]? = some (.map ents clock)) (hl : ents'.size = es'.length)
    (hv : ∀ (j : Nat) (p : AV × AV) (m : MapEntry), es'[j]? = some p → ents'.toList[j]? = some m → VR (L.at k) S w p.1 m.key ∧ VR (L.at k) S w p.2 m.val) :
    Step B L S w (L.set k r) S (H.put k (.map g es')) (World.setMap w b ents' clock') := by
  have hset : ∀ r', L k = some r' → r' = r := fun r' h => by rw [hL] at h; exact (Option.some.inj h).symm
  have hgen : ∀ r', L k = some r' → r'.gen ≤ r.gen ∧ (r.gen = r'.gen → r = r') := fun r' h => ⟨by rw [hset r' h]; exact Nat.le_refl _, fun _ => (hset r' h).symm⟩
  have hlt : b < w.heap.size := hr.lt _ _ _ hL hb
  have hle : L.le (L.set k r) := Lay.le_set hgen
  have hother : ∀ b', b' ≠ b → (World.setMap w b ents' clock').heap[b']? = w.heap[b']? := fun b' hne => by simp [World.setMap, Array.getElem?_setIfInBounds_ne (Ne.symm hne)]
  have hK : Kept S w (World.setMap w b ents' clock') := fun b' hb' => hother b' fun e => hr.stab k r b hL hb (e ▸ hb')
  have hnew : (World.setMap w b ents' clock').heap[b]? = some (.map ents' clock') := by simp [World.setMap, hlt]
  have hupd := hr.upd (H' := H.put k (.map g es')) (w' := World.setMap w b ents' clock') (k := k) (r' := r) (o' := .map g es') rfl rfl rfl (by simp [World.setMap])
    (fun b' hb' hne => hother b' fun e => hne r hL (e ▸ hb)) hgen (fun b' hb' => ⟨by simp [World.setMap]; exact hr.lt _ _ _ hL hb', .inr ⟨r, hL, hb'⟩⟩)
    (.map hb hg hnew hl (fun j p m h1 h2 => (hv j p m h1 (by simpa using h2)).1.mono (Lay.at_le hle k) (fun _ h => h) hK)
      (fun j p m h1 h2 => (hv j p m h1 (by simpa using h2)).2.mono (Lay.at_le hle k) (fun _ h => h) hK)) (AH.get_put hget)
  exact ⟨hupd.1, hupd.2.1, fun _ h => h, hupd.2.2⟩

theorem mapUpdate_sound (hr : HR B L S H w) {H' : AH} {t : TypeId} {m i v : AV} {um ui uv : Value} (h : aMapUpdate P t m i v H = some H') (hm : VR L S w m um) (hi : VR L S w i ui) (hv : VR L S w v uv) :
    ∃ L' w', (Instr.mapUpdate t um ui uv).run P w = .ok () w' ∧ Step B L S w L' S H' w' := by
  unfold aMapUpdate at h
  split at h
  · rename_i e k n κ g he
    obtain ⟨key, kk, hu, hk⟩ := intKey_spec he
    cases hi
    split at h
    · rename_i g' es hget
      split at h
      · rename_i hc
        obtain ⟨rfl, hko⟩ := hc
        obtain ⟨rg, b, ents, clock, rfl, hL, hb, hgen, hw, hsz, hval⟩ := map_obj hr hget hm
        have hva : VR (L.at κ) S w v uv := VR.to_at (k := κ) (xs := [v]) hko (j := 0) rfl hv
        cases hf : aFind k n es 0 with
        | none => simp [hf] at h
        | some q =>
          have hfs := aFind_sound (kk := kk) es ents.toList 0 q hf (by simpa using hsz) (fun j p m a b => ⟨(hval j p m a b).1.of_at, (hval j p m a b).2.of_at⟩)
          have hck := run_checkKey (P := P) (w := w) (k := k) (n := n) hk false 9999
          cases q with
          | none =>
            simp [hf] at h
            subst h
            have hfk := run_findKey (P := P) (w := w) (key := key) hk hfs
            refine ⟨L.set κ rg, World.setMap w b (ents.push { key := .int k n, val := uv, born := clock }) (clock + 1), ?_, ?_⟩
            · simp [Instr.mapUpdate, run_underlying hu, getObj, Sem.run, hw, hck, hfk, run_setObj_map hw]
            · refine map_upd hr hget hL hb hgen hw (by simp [hsz]) fun j p m h1 h2 => ?_
              simp only [Array.toList_push] at h2
              by_cases hj : j < es.length
              · rw [List.getElem?_append_left hj] at h1
                rw [List.getElem?_append_left (by simp; omega)] at h2
                exact hval j p m h1 h2
              · rw [List.getElem?_append_right (by omega)] at h1
                rw [List.getElem?_append_right (by simp; omega)] at h2
                have hj0 : j = es.length := by
                  have := (List.getElem?_eq_some_iff.1 h1).1; simp at this; omega
                subst hj0
                simp [hsz] at h1 h2
                subst h1
                subst h2
                exact ⟨.int _ _, hva⟩
          | some p =>
            obtain ⟨j, v'⟩ := p
            simp [hf] at h
            subst h
            obtain ⟨u, m', h1, h2, h3, h4, h5, h6⟩ := hfs
            simp only [Nat.sub_zero] at h4 h6
            have hfk := run_findKey (P := P) (w := w) (key := key) hk h1
            have hentj : ents[j]? = some m' := by simpa using h4
            have hstay : (Instr.keyThatStays (.int k n) (.int k n)).run P w = .ok (.int k n) w := by simp [Instr.keyThatStays, Instr.sameBits]
            refine ⟨L.set κ rg, World.setMap w b (ents.modify j fun e => { e with key := .int k n, val := uv }) clock, ?_, ?_⟩
            · simp [Instr.mapUpdate, run_underlying hu, getObj, Sem.run, hw, hck, hfk, hentj, h5, hstay, run_setObj_map hw]
            · refine map_upd hr hget hL hb hgen hw (by simp [hsz]) fun j' p m h1 h2 => ?_
              have h2' : (ents.modify j fun e => { e with key := .int k n, val := uv })[j']? = some m := by rw [← Array.getElem?_toList]; exact h2
              rw [Array.getElem?_modify] at h2'
              rw [List.getElem?_set] at h1
              by_cases e : j = j'
              · subst e
                simp [h6] at h1
                simp [hentj] at h2'
                subst h1
                subst h2'
                exact ⟨.int _ _, hva⟩
              · simp [e] at h1 h2'
                exact hval j' p m h1 (by simpa using h2')
      · cases h
    · cases h
  · cases h

theorem delete_sound (hr : HR B L S H w) {H' : AH} {t ty : TypeId} {ts : List TypeId} {m i : AV} {um ui : Value} (h : aDelete P t m i H = some H') (hm : VR L S w m um) (hi : VR L S w i ui) :
    ∃ L' w', (Builtin.delete_ (t :: ts).toArray ty #[um, ui]).run P w = .ok (.tuple #[]) w' ∧ Step B L S w L' S H' w' := by
  unfold aDelete at h
  split at h
  · rename_i e k n κ g he
    obtain ⟨key, kk, hu, hk⟩ := intKey_spec he
    cases hi
    split at h
    · rename_i g' es hget
      split at h
      · rename_i hc
        subst hc
        obtain ⟨rg, b, ents, clock, rfl, hL, hb, hgen, hw, hsz, hval⟩ := map_obj hr hget hm
        cases hf : aFind k n es 0 with
        | none => simp [hf] at h
        | some q =>
          have hfs := aFind_sound (kk := kk) es ents.toList 0 q hf (by simpa using hsz) (fun j p m a b => ⟨(hval j p m a b).1.of_at, (hval j p m a b).2.of_at⟩)
          have hck := run_checkKey (P := P) (w := w) (k := k) (n := n) hk ents.isEmpty 9999
          cases q with
          | none =>
            simp [hf] at h
            subst h
            have hfk := run_findKey (P := P) (w := w) (key := key) hk hfs
            refine ⟨L.set κ rg, World.setMap w b ents clock, ?_, ?_⟩
            · simp [Builtin.delete_, run_underlying hu, getObj, Sem.run, hw, hck, hfk, run_setObj_map hw]
            · have := map_upd (clock' := clock) hr hget hL hb hgen hw hsz hval
              have hsame : ∀ k', (H.put κ (.map g es)).get k' = H.get k' := fun k' => by
                rw [AH.get_put hget]; split
                · rename_i e; rw [e, hget]
                · rfl
              refine ⟨?_, this.le, this.sub, this.kept⟩
              have hr' := this.hr
              exact { hr' with obj := fun k' o ho => hr'.obj k' o (by rw [hsame]; exact ho), dom := fun k' r h => by rw [← hsame]; exact hr'.dom k' r h }
          | some p =>
            obtain ⟨j, v'⟩ := p
            simp [hf] at h
            subst h
            obtain ⟨u, m', h1, h2, h3, h4, h5, h6⟩ := hfs
            simp only [Nat.sub_zero] at h4 h6
            have hfk := run_findKey (P := P) (w := w) (key := key) hk h1
            refine ⟨L.set κ rg, World.setMap w b (ents.eraseIdxIfInBounds j) clock, ?_, ?_⟩
            · simp [Builtin.delete_, run_underlying hu, getObj, Sem.run, hw, hck, hfk, run_setObj_map hw]
            · have hjs : j < ents.size := by omega
              refine map_upd hr hget hL hb hgen hw ?_ fun j' p m h1 h2 => ?_
              · rw [Array.eraseIdxIfInBounds, dif_pos hjs, Array.size_eraseIdx, List.length_eraseIdx_of_lt h6, hsz]
              · rw [Array.eraseIdxIfInBounds, dif_pos hjs, Array.toList_eraseIdx] at h2
                rw [List.getElem?_eraseIdx] at h1 h2
                split at h1
                · rename_i hlt; simp only [hlt, if_true] at h2; exact hval j' p m h1 h2
                · rename_i hlt; simp only [hlt, if_false] at h2; exact hval (j' + 1) p m h1 h2
      · cases h
    · cases h
  · cases h
end
end Go.AL
namespace Go.AL
open Go

section
variable {P : Program} {B : Base} {L : Lay} {S : Nat → Prop} {H : AH} {w : World}

theorem bytes_inv : ∀ (xs : List AV) (bs : List UInt8) (us : List Value), xs.mapM byteOfAV = some bs → VRs L S w xs us → ∃ ns : List Int, us = ns.map (Value.int .u8) ∧ bs = ns.map fun n => UInt8.ofNat n.toNat
  | [], bs, us, h, hv => by
    simp at h
    subst h
    have : us = [] := List.eq_nil_of_length_eq_zero hv.1
    exact ⟨[], by simp [this], rfl⟩
  | x :: xs, bs, us, h, hv => by
    cases us with
    | nil => have := hv.1; simp at this
    | cons u us =>
      simp only [List.mapM_cons] at h
      cases hb : byteOfAV x with
      | none => simp [hb] at h
      | some b =>
        cases hbs : xs.mapM byteOfAV with
        | none => simp [hb, hbs] at h
        | some bs' =>
          simp [hb, hbs] at h
          subst h
          obtain ⟨ns, rfl, rfl⟩ := bytes_inv xs bs' us hbs ⟨by have := hv.1; simpa using this, fun j x v h1 h2 => hv.2 (j + 1) x v (by simpa using h1) (by simpa using h2)⟩
          have hx := hv.2 0 x u rfl rfl
          unfold byteOfAV at hb
          split at hb
          · rename_i n; cases hb; cases hx; exact ⟨n :: ns, rfl, rfl⟩
          · cases hb

theorem bytes_one : ∀ (xs : List AV) (bs : List UInt8), xs.mapM byteOfAV = some bs → xs.all AV.one = true
  | [], _, _ => rfl
  | x :: xs, bs, h => by
    simp only [List.mapM_cons] at h
    cases hb : byteOfAV x with
    | none => simp [hb] at h
    | some b =>
      cases hbs : xs.mapM byteOfAV with
      | none => simp [hb, hbs] at h
      | some bs' =>
        have := bytes_one xs bs' hbs
        have hx : x.one = true := by
          unfold byteOfAV at hb
          split at hb
          · rfl
          · cases hb
        simp [hx, this]

theorem foldl_push (ns : List Int) : ∀ s : ByteArray, (ns.foldl (fun r n => r.push (UInt8.ofNat n.toNat)) s) = ⟨(s.data.toList ++ ns.map fun n => UInt8.ofNat n.toNat).toArray⟩ := by
  induction ns with
  | nil => intro s; simp
  | cons n ns ih => intro s; rw [List.foldl_cons, ih]; simp [ByteArray.push]

theorem convert_sound (hr : HR B L S H w) {src dst : TypeId} {x v : AV} {u : Value} (h : aConvert P src dst x H = some v) (hx : VR L S w x u) :
    ∃ y w' S', (convert src dst u).run P w = .ok y w' ∧ VR L S' w' v y ∧ Step B L S w L S' H w' := by
  have same : ∀ {y : Value}, (convert src dst u).run P w = .ok y w → VR L S w v y → ∃ y w' S', (convert src dst u).run P w = .ok y w' ∧ VR L S' w' v y ∧ Step B L S w L S' H w' :=
    fun h1 h2 => ⟨_, w, S, h1, h2, hr, Lay.le_refl _, fun _ h => h, fun _ _ => rfl⟩
  unfold aConvert at h
  split at h
  · rename_i d1 k kk n hs hd
    cases h; cases hx
    exact same (by simp [convert, run_underlying hs, run_underlying hd, Conv.intToInt]) (.int _ _)
  · rename_i d1 s _ hs hd
    cases h; cases hx
    exact same (by cases d1 <;> simp [convert, run_underlying hs, run_underlying hd]) (.str _)
  · rename_i e s hs hd
    split at h
    · rename_i he
      cases h; cases hx
      refine ⟨_, Lib.bytesWorld w e s, fun b => S b ∨ b = w.heap.size, Lib.run_convert_string_bytes w src dst e s hs hd he, ?_, ?_⟩
      · refine VR.vs_new (Lib.bytesWorld_at_new w e s) (.inr rfl) (grownCap_ge w s.size 0 e) ?_ fun j x hx => ?_
        · simp [Lib.bytesCells]
        · rw [List.getElem?_map] at hx
          cases hb : s.data.toList[j]? with
          | none => simp [hb] at hx
          | some b =>
            simp [hb] at hx
            subst hx
            have hj : j < s.data.size := by have := (List.getElem?_eq_some_iff.1 hb).1; simpa using this
            refine ⟨.int .u8 b.toNat, ?_, .int _ _⟩
            have hb' : s.data[j]? = some b := by simpa using hb
            rw [Lib.bytesCells, Array.getElem?_append_left (by simpa using hj), Array.getElem?_map, hb']
            rfl
      · have hnew : NewBlock w (Lib.bytesWorld w e s) (.cells (Lib.bytesCells w e s) e ((Lib.bytesCells w e s).size, (Lib.bytesCells w e s).size + 1)) :=
          ⟨rfl, rfl, rfl, Lib.bytesWorld_size w e s, fun b hb => Lib.bytesWorld_at_old w e s b hb, Lib.bytesWorld_at_new w e s⟩
        exact stable_new hr hnew
    · cases h
  · rename_i e hs hd _
    split at h
    · rename_i m xs he hc
      split at h
      · rename_i bs hbs
        cases h
        have hone := bytes_one xs bs hbs
        obtain ⟨news, hsrc, hvs⟩ := aCells_src (P := P) (tx := src) (e' := e) hr hc hx hone hs
        obtain ⟨ns, rfl, rfl⟩ := bytes_inv xs bs news hbs hvs
        have hconv : ∀ a l c, (convert src dst (.slice a l c)).run P w = (Conv.bytesToString (.slice a l c)).run P w := fun a l c => by
          simp [convert, run_underlying hs, run_underlying hd, run_underlying he]
        have hsl : ∃ a l c, u = .slice a l c := by
          unfold aCells at hc
          split at hc <;> first | (cases hx <;> exact ⟨_, _, _, rfl⟩) | cases hc
        obtain ⟨a, l, c, rfl⟩ := hsl
        refine same (y := .string ⟨(ns.map fun n => UInt8.ofNat n.toNat).toArray⟩) ?_ (.str _)
        have hlen := hsrc.len w
        simp [Builtin.lenOf] at hlen
        subst hlen
        have hcells := hsrc.cells
        rw [hconv]
        cases a with
        | none =>
          simp [Builtin.firstCells] at hcells
          subst hcells
          simp [Conv.bytesToString]
          rfl
        | some a =>
          simp only [Builtin.firstCells, Nat.mul_one] at hcells
          rw [run_bytesToString w a l c ns hcells, foldl_push]
          simp
      · cases h
    · cases h
  · cases h
end
end Go.AL
namespace Go.AL
open Go

section
variable {P : Program} {B : Base} {L : Lay} {S : Nat → Prop} {H : AH} {w : World}

theorem fold_sound (mx : Bool) : ∀ (xs : List AV) (us : List Value) (x v : AV) (u : Value), VRs L S w xs us → VR L S w x u →
    xs.foldlM (fun a b => match a, b with
      | .int k n, .int _ m => some (.int k (if mx then (if n < m then m else n) else (if m < n then m else n)))
      | _, _ => none) x = some v →
    ∃ z, (us.foldlM (if mx then Builtin.max2 else Builtin.min2) u).run P w = .ok z w ∧ VR L S w v z
  | [], us, x, v, u, hv, hx, h => by
    have : us = [] := List.eq_nil_of_length_eq_zero hv.1
    subst this
    simp at h
    subst h
    exact ⟨u, by simp, hx⟩
  | y :: ys, us, x, v, u, hv, hx, h => by
    cases us with
    | nil => have := hv.1; simp at this
    | cons q us =>
      have hy := hv.2 0 y q rfl rfl
      simp only [List.foldlM_cons] at h ⊢
      cases x <;> cases y <;> simp at h
      rename_i k n k2 m
      cases hx
      cases hy
      have hv' : VRs L S w ys us := ⟨by have := hv.1; simpa using this, fun j x u a b => hv.2 (j + 1) x u (by simpa using a) (by simpa using b)⟩
      cases mx with
      | true =>
        simp only [if_true] at h ⊢
        obtain ⟨z, h1, h2⟩ := fold_sound true ys us _ v (.int k (if m > n then m else n)) hv' (.int _ _) h
        simp only [if_true] at h1
        exact ⟨z, by simp [Builtin.max2, h1], h2⟩
      | false =>
        simp only [Bool.false_eq_true, if_false] at h ⊢
        obtain ⟨z, h1, h2⟩ := fold_sound false ys us _ v (.int k (if m < n then m else n)) hv' (.int _ _) h
        simp only [Bool.false_eq_true, if_false] at h1
        exact ⟨z, by simp [Builtin.min2, h1], h2⟩

theorem VRs.map {a : Act} {ρ : Operand → AV} (hv : ∀ x, VR L S w (ρ x) (a.eval x)) (xs : List Operand) : VRs L S w (xs.map ρ) (xs.map a.eval) :=
  ⟨by simp, fun j x u h1 h2 => by
    rw [List.getElem?_map] at h1 h2
    cases hx : xs[j]? with
    | none => simp [hx] at h1
    | some o => simp [hx] at h1 h2; subst h1; subst h2; exact hv o⟩

theorem aEff_sound (hr : HR B L S H w) {ann : Ann} {o : Oper} {ρ : Operand → AV} {H' : AH} {v : AV} {a : Act} (hv : ∀ x, VR L S w (ρ x) (a.eval x)) (h : aEff P ann o ρ H = some (v, H')) :
    ∃ u w' L' S', ((execOp a.eval o).run P w = .ok (.value u) w' ∨ ((execOp a.eval o).run P w = .ok .skip w' ∧ u = Go.undef)) ∧ VR L' S' w' v u ∧ Step B L S w L' S' H' w' := by
  have stay : ∀ {v : AV} {u : Value}, (execOp a.eval o).run P w = .ok (.value u) w → VR L S w v u →
      ∃ u w' L' S', ((execOp a.eval o).run P w = .ok (.value u) w' ∨ ((execOp a.eval o).run P w = .ok .skip w' ∧ u = Go.undef)) ∧ VR L' S' w' v u ∧ Step B L S w L' S' H w' :=
    fun h1 h2 => ⟨_, w, L, S, .inl h1, h2, hr, Lay.le_refl _, fun _ h => h, fun _ _ => rfl⟩
  have opt : ∀ (x : Option Operand), OptVR L S w (x.map ρ) (x.map a.eval) := fun x => by
    cases x with
    | none => trivial
    | some x => exact hv x
  have pairs : ∀ (ps : List (Nat × Operand)) (j : Nat) (p : Nat × AV) (q : Nat × Value), (ps.map fun p => (p.1, ρ p.2))[j]? = some p → (ps.map fun p => (p.1, a.eval p.2))[j]? = some q → p.1 = q.1 ∧ VR L S w p.2 q.2 := by
    intro ps j p q h1 h2
    rw [List.getElem?_map] at h1 h2
    cases hx : ps[j]? with
    | none => simp [hx] at h1
    | some o => simp [hx] at h1 h2; subst h1; subst h2; exact ⟨rfl, hv o.2⟩
  obtain ⟨dst, op, type, pos, after, guard⟩ := o
  unfold aEff at h
  split at h
  · rename_i x hop
    cases h
    simp only at hop
    subst hop
    exact stay (by simp [execOp]) (hv x)
  · rename_i x hop
    simp only at hop
    subst hop
    split at h
    · rename_i d hx hd
      simp only at hd
      subst hd
      split at h
      · split at h
        · rename_i e sz bytes he
          split at h
          · rename_i hc
            obtain ⟨h0, hfresh⟩ := hc
            cases h
            have hxv := hv x
            rw [hx] at hxv
            generalize hu : a.eval x = u at hxv
            cases hxv
            have hLd : L (.loc d) = none := by
              cases hl : L (.loc d) with
              | none => rfl
              | some r => exact absurd hfresh (hr.dom (.loc d) r hl)
            have hget : ∀ k', ({ H with locs := lset H.locs d (.cells 0 e []) } : AH).get k' = if k' = .loc d then some (.cells 0 e []) else H.get k' := fun k' => by
              cases k' with
              | loc κ => simp [AH.get, lget_lset]
              | hp i => simp [AH.get]
            have hupd := hr.upd (H' := { H with locs := lset H.locs d (.cells 0 e []) }) (w' := w) (k := .loc d) (r' := ⟨none, 0, 0⟩) (o' := .cells 0 e []) rfl rfl rfl (Nat.le_refl _) (fun b hb _ => rfl)
              (fun r h => by rw [hLd] at h; cases h) (fun b hb => by cases hb) (.none rfl rfl rfl) hget
            exact ⟨.slice none 0 0, w, _, S, .inl (by simp [execOp, hu]), .slNone (Lay.set_same ..) rfl rfl, hupd.1, hupd.2.1, fun _ h => h, hupd.2.2⟩
          · cases h
        · cases h
      · cases h
        have hxv := hv x
        rw [hx] at hxv
        exact stay (by simp [execOp]) hxv
    · cases h
      exact stay (by simp [execOp]) (hv x)
  · rename_i c x y hop
    simp only at hop
    subst hop
    split at h
    · rename_i t hc
      cases h
      have hcv := hv c
      rw [hc] at hcv
      generalize hu : a.eval c = u at hcv
      cases hcv
      cases t with
      | true => exact stay (u := a.eval x) (by simp [execOp, hu, asBool]) (by simpa using hv x)
      | false => exact stay (u := a.eval y) (by simp [execOp, hu, asBool]) (by simpa using hv y)
    · cases h
  · rename_i e hop
    simp only at hop
    subst hop
    split at h
    · rename_i d zs hd hz
      cases hn : H.new ann d (.cells 0 e zs) with
      | none => simp [hn] at h
      | some p =>
        obtain ⟨k, H1⟩ := p
        simp [hn] at h
        obtain ⟨rfl, rfl⟩ := h
        obtain ⟨u, w', L', h1, h2, h3⟩ := alloc_sound (P := P) hr hz hn
        exact ⟨u, w', L', S, .inl (by simp [execOp, h1]), h2, h3⟩
    · cases h
  · rename_i e x hop
    simp only at hop
    subst hop
    split at h
    · rename_i d hd
      split at h
      · rename_i hone
        cases hn : H.new ann d (.cells 0 e (ρ x).cells) with
        | none => simp [hn] at h
        | some p =>
          obtain ⟨k, H1⟩ := p
          simp [hn] at h
          obtain ⟨rfl, rfl⟩ := h
          obtain ⟨u, w', L', h1, h2, h3⟩ := box_sound (P := P) hr hone hn (hv x)
          exact ⟨u, w', L', S, .inl (by simp [execOp, h1]), h2, h3⟩
      · cases h
    · cases h
  · -- build
    rename_i t parts hop
    simp only at hop
    subst hop
    cases hb : aBuild P t (parts.toList.map fun p => (p.1, ρ p.2)) with
    | none => simp [hb] at h
    | some v' =>
      simp [hb] at h
      obtain ⟨rfl, rfl⟩ := h
      obtain ⟨u, h1, h2⟩ := build_sound (P := P) (L := L) (S := S) (w := w) (us := parts.toList.map fun p => (p.1, a.eval p.2)) hb (by simp) (pairs parts.toList)
      exact stay (u := u) (by
        have e : (parts.map fun x => (x.1, a.eval x.2)) = (parts.toList.map fun p => (p.1, a.eval p.2)).toArray := by apply Array.ext'; simp
        simp only [execOp, Sem.run_bind]
        rw [show (parts.map fun (i, x) => (i, a.eval x)) = (parts.toList.map fun p => (p.1, a.eval p.2)).toArray from e, h1]
        simp) h2
  · -- buildSlice
    rename_i t n parts hop
    simp only at hop
    subst hop
    obtain ⟨u, w', L', S', h1, h2, h3⟩ := buildSlice_sound (P := P) hr (us := parts.toList.map fun p => (p.1, a.eval p.2)) h (by simp) (pairs parts.toList)
    refine ⟨u, w', L', S', .inl ?_, h2, h3⟩
    have e : (parts.map fun x => (x.1, a.eval x.2)) = (parts.toList.map fun p => (p.1, a.eval p.2)).toArray := by apply Array.ext'; simp
    simp only [execOp, Sem.run_bind]
    rw [show (parts.map fun (i, x) => (i, a.eval x)) = (parts.toList.map fun p => (p.1, a.eval p.2)).toArray from e, h1]
    simp
  · -- load
    rename_i t p hop
    simp only at hop
    subst hop
    cases hb : aLoad P t (ρ p) H with
    | none => simp [hb] at h
    | some v' =>
      simp [hb] at h
      obtain ⟨rfl, rfl⟩ := h
      obtain ⟨u, h1, h2⟩ := aLoad_sound (P := P) hr hb (hv p)
      exact stay (by simp [execOp, h1]) h2
  · -- store
    rename_i t p x hop
    simp only at hop
    subst hop
    cases hb : aStore P t (ρ p) (ρ x) H with
    | none => simp [hb] at h
    | some v' =>
      simp [hb] at h
      obtain ⟨rfl, rfl⟩ := h
      obtain ⟨L', w', h1, h2⟩ := aStore_sound (P := P) hr hb (hv p) (hv x)
      exact ⟨Go.undef, w', L', S, .inr ⟨by simp [execOp, h1], rfl⟩, .undef _, h2⟩
  · -- nilCheck
    rename_i x hop
    simp only at hop
    subst hop
    split at h
    · rename_i hn
      cases h
      obtain ⟨b, o, hu⟩ := nonnil_sound hr hn (hv x)
      have := hv x
      rw [hu] at this
      exact stay (by simp [execOp, hu]) this
    · cases h
  · -- binOp
    rename_i op t x y ty hop
    simp only at hop
    subst hop
    cases hb : aBin P op t (ρ x) (ρ y) H with
    | none => simp [hb] at h
    | some v' =>
      simp [hb] at h
      obtain ⟨rfl, rfl⟩ := h
      obtain ⟨u, h1, h2⟩ := aBin_sound (P := P) (ox := x) (oy := y) hr hb (hv x) (hv y)
      exact stay (u := u) (by
        simp only [execOp, Sem.run_bind] at h1 ⊢
        rw [h1]
        simp) h2
  · -- unOp
    rename_i op t x hop
    simp only at hop
    subst hop
    cases hb : aUn op (ρ x) with
    | none => simp [hb] at h
    | some v' =>
      simp [hb] at h
      obtain ⟨rfl, rfl⟩ := h
      obtain ⟨u, h1, h2⟩ := aUn_sound (P := P) (w := w) hb (hv x)
      exact stay (by simp [execOp, h1]) h2
  · -- convert
    rename_i src dst' x hop
    simp only at hop
    subst hop
    cases hb : aConvert P src dst' (ρ x) H with
    | none => simp [hb] at h
    | some v' =>
      simp [hb] at h
      obtain ⟨rfl, rfl⟩ := h
      obtain ⟨u, w', S', h1, h2, h3⟩ := convert_sound (P := P) hr hb (hv x)
      exact ⟨u, w', L, S', .inl (by simp [execOp, h1]), h2, h3⟩
  · -- makeFunc
    rename_i f first cap hop
    simp only at hop
    subst hop
    cases h
    refine stay (u := .func (.func f) (first.toList.map a.eval).toArray (cap.toList.map a.eval).toArray) ?_ (.fn _ _ (by simp) (by simp) (VRs.map hv first.toList).2 (VRs.map hv cap.toList).2)
    have e1 : first.map a.eval = (first.toList.map a.eval).toArray := by apply Array.ext'; simp
    have e2 : cap.map a.eval = (cap.toList.map a.eval).toArray := by apply Array.ext'; simp
    simp [execOp, Instr.makeFunc, e1, e2]
  · -- makeMap
    rename_i t hop
    simp only at hop
    subst hop
    split at h
    · rename_i d hd
      cases hn : H.new ann d (.map 0 []) with
      | none => simp [hn] at h
      | some p =>
        obtain ⟨k, H1⟩ := p
        simp [hn] at h
        obtain ⟨rfl, rfl⟩ := h
        obtain ⟨u, w', L', h1, h2, h3⟩ := makeMap_sound (P := P) (t := t) hr hn
        exact ⟨u, w', L', S, .inl (by simp [execOp, h1]), h2, h3⟩
    · cases h
  · -- makeSlice
    rename_i t n c hop
    simp only at hop
    subst hop
    obtain ⟨u, w', L', h1, h2, h3⟩ := makeSlice_sound (P := P) hr h (hv n) (hv c)
    exact ⟨u, w', L', S, .inl (by simp [execOp, h1]), h2, h3⟩
  · -- slice
    rename_i t x lo hi hop
    simp only at hop
    subst hop
    cases hb : aSlice P t (ρ x) (lo.map ρ) (hi.map ρ) H with
    | none => simp [hb] at h
    | some v' =>
      simp [hb] at h
      obtain ⟨rfl, rfl⟩ := h
      obtain ⟨u, h1, h2⟩ := slice_sound (P := P) hr hb (hv x) (opt lo) (opt hi)
      exact stay (by simp [execOp, h1]) h2
  · -- fieldAddr
    rename_i t x f hop
    simp only at hop
    subst hop
    split at h
    · rename_i hn
      cases hb : aFieldAddr P t (ρ x) f with
      | none => simp [hb] at h
      | some v' =>
        simp [hb] at h
        obtain ⟨rfl, rfl⟩ := h
        obtain ⟨u, h1, h2⟩ := fieldAddr_sound (P := P) hb (hv x) (nonnil_sound hr hn (hv x))
        exact stay (by simp [execOp, h1]) h2
    · cases h
  · -- field
    rename_i t x f hop
    simp only at hop
    subst hop
    cases hb : aField P t (ρ x) f with
    | none => simp [hb] at h
    | some v' =>
      simp [hb] at h
      obtain ⟨rfl, rfl⟩ := h
      obtain ⟨u, h1, h2⟩ := field_sound (P := P) hb (hv x)
      exact stay (by simp [execOp, h1]) h2
  · -- indexAddr
    rename_i t x i hop
    simp only at hop
    subst hop
    cases hb : aIndexAddr P t (ρ x) (ρ i) H with
    | none => simp [hb] at h
    | some v' =>
      simp [hb] at h
      obtain ⟨rfl, rfl⟩ := h
      obtain ⟨u, h1, h2⟩ := indexAddr_sound (P := P) hr hb (hv x) (hv i)
      exact stay (by simp [execOp, h1]) h2
  · -- index
    rename_i t x i hop
    simp only at hop
    subst hop
    cases hb : aIndex P t (ρ x) (ρ i) with
    | none => simp [hb] at h
    | some v' =>
      simp [hb] at h
      obtain ⟨rfl, rfl⟩ := h
      obtain ⟨u, h1, h2⟩ := index_sound (P := P) hb (hv x) (hv i)
      exact stay (by simp [execOp, h1]) h2
  · -- lookup
    rename_i t m i ok hop
    simp only at hop
    subst hop
    cases hb : aLookup P t (ρ m) (ρ i) ok H with
    | none => simp [hb] at h
    | some v' =>
      simp [hb] at h
      obtain ⟨rfl, rfl⟩ := h
      obtain ⟨u, h1, h2⟩ := lookup_sound (P := P) hr hb (hv m) (hv i)
      exact stay (by simp [execOp, h1]) h2
  · -- mapUpdate
    rename_i t m i x hop
    simp only at hop
    subst hop
    cases hb : aMapUpdate P t (ρ m) (ρ i) (ρ x) H with
    | none => simp [hb] at h
    | some v' =>
      simp [hb] at h
      obtain ⟨rfl, rfl⟩ := h
      obtain ⟨L', w', h1, h2⟩ := mapUpdate_sound (P := P) hr hb (hv m) (hv i) (hv x)
      exact ⟨Go.undef, w', L', S, .inr ⟨by simp [execOp, h1], rfl⟩, .undef _, h2⟩
  · -- extract
    rename_i t i hop
    simp only at hop
    subst hop
    split at h
    · rename_i xs hx
      have hxv := hv t
      rw [hx] at hxv
      cases hi : xs[i]? with
      | none => simp [hi] at h
      | some x =>
        simp [hi] at h
        obtain ⟨rfl, rfl⟩ := h
        generalize hu : a.eval t = u at hxv
        cases hxv with
        | tup us hl hv' =>
          obtain ⟨y, h1, h2⟩ := VRs.get ⟨hl, hv'⟩ hi
          exact stay (u := y) (by simp [execOp, hu, Instr.extract, h1]) h2
    · cases h
  · -- len
    rename_i args argTypes hop
    simp only at hop
    subst hop
    split at h
    · rename_i x t ha ht
      cases hb : aLen P t (ρ x) H with
      | none => simp [hb] at h
      | some v' =>
        simp [hb] at h
        obtain ⟨rfl, rfl⟩ := h
        obtain ⟨u, h1, h2⟩ := aLen_sound (P := P) (ty := type) hr hb (hv x)
        have e1 : args = #[x] := by apply Array.ext'; simpa using ha
        have e2 : argTypes = #[t] := by apply Array.ext'; simpa using ht
        subst e1
        subst e2
        exact stay (by simp [execOp, resolve, invoke, builtin, h1]) h2
    · cases h
  · -- append
    rename_i args argTypes hop
    simp only at hop
    subst hop
    split at h
    · rename_i x y t tx ha ht
      have e1 : args = #[x, y] := by apply Array.ext'; simpa using ha
      have e2 : argTypes = #[t, tx] := by apply Array.ext'; simpa using ht
      subst e1
      subst e2
      obtain ⟨u, w', L', h1, h2, h3⟩ := append_sound (P := P) (ty := type) hr h (hv x) (hv y)
      exact ⟨u, w', L', S, .inl (by simp [execOp, resolve, invoke, builtin, h1]), h2, h3⟩
    · cases h
  · -- delete
    rename_i args argTypes hop
    simp only at hop
    subst hop
    split at h
    · rename_i m i t ts ha ht
      have e1 : args = #[m, i] := by apply Array.ext'; simpa using ha
      have e2 : argTypes = (t :: ts).toArray := by apply Array.ext'; simpa using ht
      subst e1
      subst e2
      cases hb : aDelete P t (ρ m) (ρ i) H with
      | none => simp [hb] at h
      | some v' =>
        simp [hb] at h
        obtain ⟨rfl, rfl⟩ := h
        obtain ⟨L', w', h1, h2⟩ := delete_sound (P := P) (ty := type) (ts := ts) hr hb (hv m) (hv i)
        exact ⟨.tuple #[], w', L', S, .inl (by simp [execOp, resolve, invoke, builtin, h1]), .tup [] rfl (by simp), h2⟩
    · cases h
  · -- min
    rename_i args argTypes hop
    simp only at hop
    subst hop
    cases hb : aMin false (args.toList.map ρ) with
    | none => simp [hb] at h
    | some v' =>
      simp [hb] at h
      obtain ⟨rfl, rfl⟩ := h
      unfold aMin at hb
      cases hl : args.toList with
      | nil => simp [hl] at hb
      | cons x xs =>
        simp only [hl, List.map_cons] at hb
        obtain ⟨z, h1, h2⟩ := fold_sound (P := P) false _ _ _ _ (a.eval x) (VRs.map hv xs) (hv x) hb
        have e1 : args.map a.eval = (a.eval x :: xs.map a.eval).toArray := by apply Array.ext'; simp [hl]
        exact stay (u := z) (by simp [execOp, resolve, invoke, builtin, Builtin.min_, e1]; simp at h1; simp [h1]) h2
  · -- max
    rename_i args argTypes hop
    simp only at hop
    subst hop
    cases hb : aMin true (args.toList.map ρ) with
    | none => simp [hb] at h
    | some v' =>
      simp [hb] at h
      obtain ⟨rfl, rfl⟩ := h
      unfold aMin at hb
      cases hl : args.toList with
      | nil => simp [hl] at hb
      | cons x xs =>
        simp only [hl, List.map_cons] at hb
        obtain ⟨z, h1, h2⟩ := fold_sound (P := P) true _ _ _ _ (a.eval x) (VRs.map hv xs) (hv x) hb
        have e1 : args.map a.eval = (a.eval x :: xs.map a.eval).toArray := by apply Array.ext'; simp [hl]
        exact stay (u := z) (by simp [execOp, resolve, invoke, builtin, Builtin.max_, e1]; simp at h1; simp [h1]) h2
  · cases h
end
end Go.AL
namespace Go.AL
open Go

/-- What a function that is called begins with. -/
def Base.of (L : Lay) (S : Nat → Prop) (w : World) : Base := { L, S, w, wr := fun b => ∃ i r, L (.hp i) = some r ∧ r.blk = some b }

theorem hpOnly_hpOnly (L : Lay) : L.hpOnly.hpOnly = L.hpOnly := by funext k; cases k <;> rfl

theorem HR.enter {B : Base} {L : Lay} {S : Nat → Prop} {H : AH} {w : World} (h : HR B L S H w) : HR (Base.of L.hpOnly S w) L.hpOnly S ⟨[], H.heap⟩ w where
  obj := fun k o ho => by
    cases k with
    | loc κ => simp [AH.get, lget] at ho
    | hp i =>
      obtain ⟨r, hL, hor⟩ := h.obj (.hp i) o ho
      refine ⟨r, hL, ?_⟩
      show OR L.hpOnly.hpOnly S w r o
      rw [hpOnly_hpOnly]
      exact hor
  dom := fun k r hr => by
    cases k with
    | loc κ => simp [Lay.hpOnly] at hr
    | hp i => exact h.dom (.hp i) r hr
  inj := fun k1 k2 r1 r2 b h1 h2 h3 h4 => by
    cases k1 <;> cases k2 <;> simp [Lay.hpOnly] at h1 h2
    exact h.inj _ _ r1 r2 b h1 h2 h3 h4
  lt := fun k r b h1 h2 => by
    cases k <;> simp [Lay.hpOnly] at h1
    exact h.lt _ r b h1 h2
  stab := fun k r b h1 h2 => by
    cases k <;> simp [Lay.hpOnly] at h1
    exact h.stab _ r b h1 h2
  own := fun k r b h1 h2 => by
    cases k <;> simp [Lay.hpOnly] at h1
    exact .inl ⟨_, r, h1, h2⟩
  Slt := h.Slt
  Sb := fun b hb => .inl hb
  S0 := fun b hb => hb
  os := rfl
  tape := rfl
  output := rfl
  size := Nat.le_refl _
  keep := fun b _ _ => rfl
  lay := fun i r hr => ⟨r, hr, Nat.le_refl _, fun _ => rfl⟩

/-- The caller's layout behind a call. -/
def Lay.join (L L' : Lay) : Lay
  | .loc κ => L (.loc κ)
  | .hp i => L' (.hp i)

theorem HR.leave {B : Base} {L L' : Lay} {S S' : Nat → Prop} {H : AH} {w w' : World} {h' : List AObj} (h : HR B L S H w) (hc : HR (Base.of L.hpOnly S w) L' S' ⟨[], h'⟩ w') (hloc : ∀ κ, L' (.loc κ) = none) :
    HR B (L.join L') S' ⟨H.locs, h'⟩ w' ∧ L.le (L.join L') ∧ (∀ b, S b → S' b) ∧ Kept S w w' := by
  have wr_of : ∀ b, (Base.of L.hpOnly S w).wr b → ∃ i r, L (.hp i) = some r ∧ r.blk = some b := fun b ⟨i, r, h1, h2⟩ => ⟨i, r, h1, h2⟩
  have hle : L.le (L.join L') := by
    intro k r hr
    cases k with
    | loc κ => exact ⟨r, hr, Nat.le_refl _, fun _ => rfl⟩
    | hp i => exact hc.lay i r hr
  have hS : ∀ b, S b → S' b := fun b hb => hc.S0 b hb
  have hK : Kept S w w' := fun b hb => hc.keep b (h.Slt b hb) fun hw => by
    obtain ⟨i, r, h1, h2⟩ := wr_of b hw
    exact h.stab _ r b h1 h2 hb
  have hjoin : (L.join L').hpOnly = L'.hpOnly := by funext k; cases k <;> rfl
  -- a local object's block
  have hlb : ∀ κ r b, L (.loc κ) = some r → r.blk = some b → b < w.heap.size ∧ ¬ (Base.of L.hpOnly S w).wr b := fun κ r b h1 h2 =>
    ⟨h.lt _ r b h1 h2, fun hw => by
      obtain ⟨i, r', h3, h4⟩ := wr_of b hw
      have := h.inj _ _ r r' b h1 h3 h2 h4
      cases this⟩
  have hcross : ∀ κ i r1 r2 b, L (.loc κ) = some r1 → L' (.hp i) = some r2 → r1.blk = some b → r2.blk = some b → False := fun κ i r1 r2 b h1 h2 h3 h4 => by
    obtain ⟨h5, h6⟩ := hlb κ r1 b h1 h3
    rcases hc.own _ r2 b h2 h4 with h7 | h7
    · exact h6 h7
    · have : w.heap.size ≤ b := h7
      omega
  refine ⟨?_, hle, hS, hK⟩
  refine { obj := ?_, dom := ?_, inj := ?_, lt := ?_, stab := ?_, own := ?_, Slt := hc.Slt, Sb := ?_, S0 := (fun b hb => hS b (h.S0 b hb)), os := hc.os.trans h.os, tape := hc.tape.trans h.tape,
           output := hc.output.trans h.output, size := Nat.le_trans h.size hc.size, keep := ?_, lay := ?_ }
  · intro k o ho
    cases k with
    | loc κ =>
      obtain ⟨r, hL, hor⟩ := h.obj (.loc κ) o ho
      refine ⟨r, hL, ?_⟩
      exact hor.mono hle hS hK fun b hb => hc.keep b (hlb κ r b hL hb).1 (hlb κ r b hL hb).2
    | hp i =>
      obtain ⟨r, hL, hor⟩ := hc.obj (.hp i) o ho
      refine ⟨r, hL, ?_⟩
      show OR (L.join L').hpOnly S' w' r o
      rw [hjoin]
      exact hor
  · intro k r hr
    cases k with
    | loc κ => exact h.dom (.loc κ) r hr
    | hp i => exact hc.dom (.hp i) r hr
  · intro k1 k2 r1 r2 b h1 h2 h3 h4
    cases k1 <;> cases k2
    · exact h.inj _ _ r1 r2 b h1 h2 h3 h4
    · exact (hcross _ _ r1 r2 b h1 h2 h3 h4).elim
    · exact (hcross _ _ r2 r1 b h2 h1 h4 h3).elim
    · exact hc.inj _ _ r1 r2 b h1 h2 h3 h4
  · intro k r b h1 h2
    cases k with
    | loc κ => exact Nat.lt_of_lt_of_le (h.lt _ r b h1 h2) hc.size
    | hp i => exact hc.lt _ r b h1 h2
  · intro k r b h1 h2 hb
    cases k with
    | loc κ =>
      obtain ⟨h5, h6⟩ := hlb κ r b h1 h2
      rcases hc.Sb b hb with h7 | h7 | h7
      · exact h.stab _ r b h1 h2 h7
      · exact h6 h7
      · have : w.heap.size ≤ b := h7
        omega
    | hp i => exact hc.stab _ r b h1 h2 hb
  · intro k r b h1 h2
    cases k with
    | loc κ => exact h.own _ r b h1 h2
    | hp i =>
      rcases hc.own _ r b h1 h2 with h7 | h7
      · obtain ⟨i, r', h3, h4⟩ := wr_of b h7
        exact h.own _ r' b h3 h4
      · exact .inr (Nat.le_trans h.size h7)
  · intro b hb
    rcases hc.Sb b hb with h7 | h7 | h7
    · exact h.Sb b h7
    · obtain ⟨i, r', h3, h4⟩ := wr_of b h7
      rcases h.own _ r' b h3 h4 with h8 | h8
      · exact .inr (.inl h8)
      · exact .inr (.inr h8)
    · exact .inr (.inr (Nat.le_trans h.size h7))
  · intro b hb hnw
    rw [← h.keep b hb hnw]
    refine hc.keep b (Nat.lt_of_lt_of_le hb h.size) fun hw => ?_
    obtain ⟨i, r', h3, h4⟩ := wr_of b hw
    rcases h.own _ r' b h3 h4 with h8 | h8
    · exact hnw h8
    · omega
  · intro i r hr
    obtain ⟨r1, h1, h2, h3⟩ := h.lay i r hr
    obtain ⟨r2, h4, h5, h6⟩ := hc.lay i r1 h1
    refine ⟨r2, h4, by omega, fun e => ?_⟩
    have e1 : r1.gen = r.gen := by omega
    have e2 : r2.gen = r1.gen := by omega
    rw [h6 e2, h3 e1]

/-- A function's contract: called with such arguments over such a heap it returns what Q says. -/
def FnQ (P : Program) (f : FuncId) (args : List AV) (h : List AObj) (Q : AV → List AObj → Prop) : Prop :=
  ∀ (L : Lay) (S : Nat → Prop) (w : World) (us : List Value), (∀ κ, L (.loc κ) = none) → HR (Base.of L S w) L S ⟨[], h⟩ w → VRs L S w args us →
    Calls P f us.toArray w (fun e w' => ∃ u r h' L' S', e = .returned u ∧ Q r h' ∧ VR L' S' w' r u ∧ HR (Base.of L S w) L' S' ⟨[], h'⟩ w' ∧ ∀ κ, L' (.loc κ) = none)

/-- The same with one answer; the heap stays as it is. -/
def Fn (P : Program) (f : FuncId) (args : List AV) (r : AV) : Prop := ∀ h, FnQ P f args h (fun r' h' => r' = r ∧ h' = h)

theorem FnQ.mono {P : Program} {f : FuncId} {args : List AV} {h : List AObj} {Q Q' : AV → List AObj → Prop} (hq : ∀ r h', Q r h' → Q' r h') (hf : FnQ P f args h Q) : FnQ P f args h Q' :=
  fun L S w us hl hr hv => (hf L S w us hl hr hv).mono fun e w' ⟨u, r, h', L', S', h1, h2, h3⟩ => ⟨u, r, h', L', S', h1, hq _ _ h2, h3⟩

def enters (P : Program) (f : FuncId) : Bool := match P.funcs[f]? with
  | some fn => fn.body.isSome && !(fn.name == "runtime.NumGoroutine")
  | none => false

/-- What an operation does, abstractly: a call by its contract. -/
def aOp (P : Program) (ann : Ann) (o : Oper) (ρ : Operand → AV) (H : AH) (K : AV → AH → Prop) : Prop :=
  match o.op with
  | .call { callee := .value f, args, .. } => match ρ f with
    | .fn fid first cap => enters P fid = true ∧ noLocs (first ++ args.toList.map ρ ++ cap) = true ∧ FnQ P fid (first ++ args.toList.map ρ ++ cap) H.heap (fun r h' => K r { H with heap := h' })
    | _ => False
  | _ => match aEff P ann o ρ H with
    | some (v, H') => K v H'
    | none => False

theorem callFunc_run {P : Program} {f : FuncId} (h : enters P f = true) (args : Array Value) (w : World) : (callFunc f args).run P w = .ok (.enter f args) w := by
  unfold enters at h
  split at h
  · rename_i fn hf
    simp only [Bool.and_eq_true, Bool.not_eq_true'] at h
    obtain ⟨h1, h2⟩ := h
    have h3 : fn.body.isNone = false := by cases hb : fn.body <;> simp_all
    simp only [callFunc, Sem.run_bind, run_program, Result.andThen_ok, hf, h2, h3, Bool.false_eq_true, if_false, Sem.run_pure]
  · cases h

theorem tput_get (ts : List (Nat × AV)) (d : Option Tmp) (v : AV) (t : Nat) : lget (tput ts d v) t = if d = some t then some v else lget ts t := by
  cases d with
  | none => simp [tput]
  | some d => simp only [tput, lget_lset, Option.some.injEq]; by_cases e : t = d <;> simp [e, eq_comm]

theorem lget_tput (ts : List (Nat × AV)) (d : Option Tmp) (v : AV) : lget (tput ts d v) = updF (lget ts) d v := by funext t; rw [tput_get]; rfl

theorem TR.put {L : Lay} {S : Nat → Prop} {w : World} {T : Nat → Option AV} {a : Act} (h : TR L S w T a) (d : Option Tmp) {v : AV} {u : Value} (hv : VR L S w v u) (hd : ∀ t, d = some t → t < a.tmps.size) : TR L S w (updF T d v) (a.put d u) := by
  intro t x hx
  unfold updF at hx
  cases d with
  | none => simp at hx; exact h t x hx
  | some d =>
    simp only [Option.some.injEq] at hx
    by_cases e : d = t
    · subst e
      simp only [if_true] at hx
      cases hx
      have := hd d rfl
      refine ⟨by simpa [Act.put] using this, ?_⟩
      simp only [Act.put, Array.getD_eq_getD_getElem?, Array.getElem?_setIfInBounds_self_of_lt this, Option.getD_some]
      exact hv
    · simp only [e, if_false] at hx
      obtain ⟨h1, h2⟩ := h t x hx
      refine ⟨by simpa [Act.put] using h1, ?_⟩
      simp only [Act.put, Array.getD_eq_getD_getElem?, Array.getElem?_setIfInBounds_ne e]
      simpa [Array.getD_eq_getD_getElem?] using h2

/-- The frame has n temporaries, and is told by T and H. -/
def RelF (B : Base) (n : Nat) (T : Nat → Option AV) (H : AH) (a : Act) (w : World) : Prop := a.tmps.size = n ∧ a.defers = [] ∧ ∃ L S, HR B L S H w ∧ TR L S w T a
def RelN (B : Base) (n : Nat) (s : AState) (a : Act) (w : World) : Prop := RelF B n (lget s.tmps) s.H a w

theorem put_size (a : Act) (d : Option Tmp) (u : Value) : (a.put d u).tmps.size = a.tmps.size := by cases d <;> simp [Act.put]
theorem put_defers (a : Act) (d : Option Tmp) (u : Value) : (a.put d u).defers = a.defers := by cases d <;> rfl

theorem aOp_soundF {P : Program} {B : Base} {n : Nat} {T : Nat → Option AV} {H : AH} {a : Act} {w : World} {ann : Ann} {o : Oper} {K : AV → AH → Prop} {Q : Exit → Act → World → Prop} (hrel : RelF B n T H a w) (hd : ∀ t, o.dst = some t → t < n)
    (h : aOp P ann o (avalF T) H K) : o.wp P a w (fun a' w' => ∃ v H', K v H' ∧ RelF B n (updF T o.dst v) H' a' w') Q := by
  obtain ⟨hn, hdef, L, S, hr, ht⟩ := hrel
  have hav := fun x => VR.aval ht x
  unfold aOp at h
  split at h
  · rename_i f args argTypes hop
    split at h
    · rename_i fid first cap hf
      obtain ⟨hent, hloc, hfn⟩ := h
      have hfv := hav f
      rw [hf] at hfv
      generalize hu : a.eval f = u at hfv
      cases hfv with
      | fn us ws hl hl' hv hv' =>
        have hargs : VRs L S w (first ++ args.toList.map (avalF T) ++ cap) (us ++ args.toList.map a.eval ++ ws) := by
          refine ⟨by simp [hl, hl'], fun j x u h1 h2 => ?_⟩
          rw [List.append_assoc] at h1 h2
          by_cases hj : j < first.length
          · rw [List.getElem?_append_left hj] at h1
            rw [List.getElem?_append_left (by omega)] at h2
            exact hv j x u h1 h2
          · rw [List.getElem?_append_right (by omega)] at h1
            rw [List.getElem?_append_right (by omega), hl] at h2
            by_cases hj2 : j - first.length < args.toList.length
            · rw [List.getElem?_append_left (by simpa using hj2)] at h1 h2
              exact (VRs.map hav args.toList).2 _ x u h1 h2
            · rw [List.getElem?_append_right (by simpa using hj2)] at h1 h2
              simp only [List.length_map] at h1 h2
              exact hv' _ x u h1 h2
        have hargs' : VRs L.hpOnly S w (first ++ args.toList.map (avalF T) ++ cap) (us ++ args.toList.map a.eval ++ ws) :=
          ⟨hargs.1, fun j x u h1 h2 => (hargs.2 j x u h1 h2).to_hp (noLocs_get hloc h1)⟩
        have hcall := hfn L.hpOnly S w _ (fun κ => rfl) hr.enter hargs'
        have hrun : (execOp a.eval o).run P w = .ok (.enter fid (us ++ args.toList.map a.eval ++ ws).toArray) w := by
          obtain ⟨dst, op, type, pos, after, guard⟩ := o
          simp only at hop
          subst hop
          have e : us.toArray ++ args.map a.eval ++ ws.toArray = (us ++ args.toList.map a.eval ++ ws).toArray := by apply Array.ext'; simp
          simp only [execOp, resolve, hu, Deferred.ofValue, Sem.run_bind, Sem.run_pure, Result.andThen_ok, invoke, e, callFunc_run hent]
        unfold Oper.wp
        rw [hrun, Oper.upon_enter]
        refine hcall.mono fun e w' hq => ?_
        obtain ⟨u', r, h', L', S', rfl, hQ, hvr, hr', hloc'⟩ := hq
        obtain ⟨h1, h2, h3, h4⟩ := hr.leave hr' hloc'
        refine ⟨r, _, hQ, by rw [put_size]; exact hn, by rw [put_defers]; exact hdef, L.join L', S', h1, ?_⟩
        refine (ht.mono h2 h3 h4).put _ ?_ (fun t e => by rw [hn]; exact hd t e)
        have hle : L'.le (L.join L') := fun k r hk => by
          cases k with
          | loc κ => rw [hloc'] at hk; cases hk
          | hp i => exact ⟨r, hk, Nat.le_refl _, fun _ => rfl⟩
        exact hvr.mono hle (fun _ h => h) (fun _ _ => rfl)
    · cases h
  · rename_i hno
    split at h
    · rename_i v H' he
      obtain ⟨u, w', L', S', hrun, hvr, hst⟩ := aEff_sound hr hav he
      have fin : RelF B n (updF T o.dst v) H' (a.put o.dst u) w' :=
        ⟨by rw [put_size]; exact hn, by rw [put_defers]; exact hdef, L', S', hst.hr, (ht.mono hst.le hst.sub hst.kept).put _ hvr (fun t e => by rw [hn]; exact hd t e)⟩
      unfold Oper.wp
      rcases hrun with hrun | ⟨hrun, rfl⟩
      · rw [hrun, Oper.upon_value]; exact ⟨v, H', h, fin⟩
      · rw [hrun, Oper.upon_skip]; exact ⟨v, H', h, fin⟩
    · cases h

theorem aOp_sound {P : Program} {B : Base} {n : Nat} {s : AState} {a : Act} {w : World} {ann : Ann} {o : Oper} {K : AV → AH → Prop} {Q : Exit → Act → World → Prop} (hrel : RelN B n s a w) (hd : ∀ t, o.dst = some t → t < n)
    (h : aOp P ann o (aval s.tmps) s.H K) : o.wp P a w (fun a' w' => ∃ v H', K v H' ∧ RelN B n ⟨tput s.tmps o.dst v, H'⟩ a' w') Q := by
  rw [aval_eq] at h
  refine Oper.wp_mono (fun a' w' ⟨v, H', h1, h2⟩ => ⟨v, H', h1, ?_⟩) (aOp_soundF (Q := Q) hrel hd h)
  unfold RelN
  rw [lget_tput]
  exact h2
end Go.AL
