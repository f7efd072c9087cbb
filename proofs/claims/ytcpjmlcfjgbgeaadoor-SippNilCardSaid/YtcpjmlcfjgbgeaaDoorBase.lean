/- What is known of the library's functions: strings.Join, strings.Count at one byte, stringslite.IndexByte. -/
import Derived.Test.YtcpjmlcfjgbgeaaDoorLf
import Derived.Test.YtcpjmlcfjgbgeaaDoorShelf
set_option linter.unusedVariables false
set_option linter.unusedSimpArgs false
namespace Go.Proofs.YtcpjmlcfjgbgeaaDoor
open Go Go.AL

def strsOf : List AV → Option (List ByteArray)
  | [] => some []
  | .str s :: xs => (strsOf xs).map (s :: ·)
  | _ => none
theorem strsOf_eq : ∀ {xs : List AV} {ss : List ByteArray}, strsOf xs = some ss → xs = ss.map .str
  | [], ss, h => by simp [strsOf] at h; subst h; rfl
  | x :: xs, ss, h => by
    cases x <;> simp [strsOf] at h
    obtain ⟨r, h1, rfl⟩ := h
    rw [strsOf_eq h1]; rfl

def idxP : List AV → Option AV
  | [.str s, .int .u8 c] => some (.int .i64 (Lib.indexByte s.data.toList c.toNat.toUInt8))
  | _ => none
def cntP : List AV → Option AV
  | [.str s, .str t] => match t.data.toList with
    | [c] => some (.int .i64 (Lib.countByte s.data.toList c))
    | _ => none
  | _ => none
def joinP : List AV → Option AV
  | [.vs n xs, .str sep] => match strsOf xs with
    | some ss => if n = ss.length ∧ ss ≠ [] ∧ ss.length ≤ 140737488355328 ∧ (Lib.join (ss.map (·.data.toList)) sep.data.toList).length ≤ 140737488355328 then some (.str ⟨(Lib.join (ss.map (·.data.toList)) sep.data.toList).toArray⟩) else none
    | none => none
  | _ => none

def baseP : FuncId → Option (List AV → Option AV) := fun f => bif Nat.beq f 181 then some idxP else bif Nat.beq f 143 then some cntP else bif Nat.beq f 79 then some joinP else none

theorem idx_ok {args : List AV} {r : AV} (h : idxP args = some r) : AL.Fn Tryd.prog 181 args r := by
  unfold idxP at h
  split at h
  · rename_i s c
    cases h
    refine AL.Fn.of_below fun L S w us _ hv => ?_
    obtain ⟨vs1, rfl, hv1⟩ := hv.str
    obtain ⟨vs2, rfl, hv2⟩ := hv1.int
    obtain rfl := hv2.nil
    exact (Tryd.stringslite_IndexByte s c w).mono fun e w' ⟨he, hw⟩ => ⟨_, he, fun _ _ _ => .int _ _, hw ▸ RowKit.Below.refl _ _⟩
  · cases h

theorem cnt_ok {args : List AV} {r : AV} (h : cntP args = some r) : AL.Fn Tryd.prog 143 args r := by
  unfold cntP at h
  split at h
  · rename_i s t
    split at h
    · rename_i c hc
      cases h
      have ht : t = ⟨#[c]⟩ := by
        cases t
        simp only at hc
        congr 1
        apply Array.ext'
        simpa using hc
      subst ht
      refine AL.Fn.of_below fun L S w us _ hv => ?_
      obtain ⟨vs1, rfl, hv1⟩ := hv.str
      obtain ⟨vs2, rfl, hv2⟩ := hv1.str
      obtain rfl := hv2.nil
      exact (Tryd.strings_Count_one s c w).mono fun e w' ⟨he, hw⟩ => ⟨_, he, fun _ _ _ => .int _ _, hw ▸ RowKit.Below.refl _ _⟩
    · cases h
  · cases h

theorem join_ok {args : List AV} {r : AV} (h : joinP args = some r) : AL.Fn Tryd.prog 79 args r := by
  unfold joinP at h
  split at h
  · rename_i n xs sep
    split at h
    · rename_i ss hss
      split at h
      · rename_i hc
        cases h
        obtain ⟨rfl, h0, hn, hlen⟩ := hc
        have := strsOf_eq hss
        subst this
        refine AL.Fn.of_below fun L S w us hS hv => ?_
        obtain ⟨b, o, c, vs1, rfl, hv1, hb, hcap, hcell⟩ := hv.strs h0
        obtain ⟨vs2, rfl, hv2⟩ := hv1.str
        obtain rfl := hv2.nil
        exact (Tryd.strings_Join b o c ss sep w hcell (hS b hb) hn hcap hlen).mono fun e w' ⟨he, hw⟩ => ⟨_, he, fun _ _ _ => .str _, hw⟩
      · cases h
    · cases h
  · cases h

theorem base_ok : ∀ f g, baseP f = some g → ∀ args r, g args = some r → AL.Fn Tryd.prog f args r := by
  intro f g hg args r hr
  unfold baseP at hg
  cases h1 : Nat.beq f 181 with
  | true =>
    simp only [h1, cond_true, Option.some.injEq] at hg
    subst hg
    rw [Nat.eq_of_beq_eq_true h1]
    exact idx_ok hr
  | false =>
    simp only [h1, cond_false] at hg
    cases h2 : Nat.beq f 143 with
    | true =>
      simp only [h2, cond_true, Option.some.injEq] at hg
      subst hg
      rw [Nat.eq_of_beq_eq_true h2]
      exact cnt_ok hr
    | false =>
      simp only [h2, cond_false] at hg
      cases h3 : Nat.beq f 79 with
      | true =>
        simp only [h3, cond_true, Option.some.injEq] at hg
        subst hg
        rw [Nat.eq_of_beq_eq_true h3]
        exact join_ok hr
      | false => simp [h3] at hg

theorem mixed : Tryd.prog.follows .mixedOrders = true := by kernel_rfl
theorem dsts : allDsts Tryd.prog = true := by kernel_rfl
end Go.Proofs.YtcpjmlcfjgbgeaaDoor
