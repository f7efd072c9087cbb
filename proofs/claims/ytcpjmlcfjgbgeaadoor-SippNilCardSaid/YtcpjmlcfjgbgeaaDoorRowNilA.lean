/- SippNil holds: with a nil table nothing is planned, for every case; the card is tied to the program's text. -/
import Derived.Test.YtcpjmlcfjgbgeaaDoorNilA
import Derived.Test.YtcpjmlcfjgbgeaaDoorCards
import Derived.Test.YtcpjmlcfjgbgeaaDoorTie
import Derived.WalkKit
import Derived.ProofKit
import Derived.OpenShut
import Derived.Deep.DeepHandedRow
import Derived.Lib.LaidTab
import Derived.LaidMore
import Derived.Lay
import Derived.Stop.Joined
import Derived.SevenTiedAt
set_option linter.unusedVariables false
namespace Go.Proofs.YtcpjmlcfjgbgeaaDoor.sippNil
open Go.ChangeShapes Go.WideShapes Go.ChangeAt Go.RowKit Go.AL

theorem own : ownKnob Tryd.prog.godebug = none := by kernel_rfl
theorem laidOut : laidOutB Tryd.prog = true := by kernel_rfl
set_option maxRecDepth 100000
theorem plain26 : plainT Tryd.prog 8 26 = true := by kernel_rfl


theorem contract (hlaw : ∀ x, AFit Tryd.prog 8 26 x → FnQ Tryd.prog 6 [x] [] (fun r _ => r = .bool true)) (H : Type) (enc : TypeId × Value → H) (W : World) (base : Nat) (args : Array Value) (ds gs : List (DataW H)) (before : List MemPlace)
    (hval : ∀ (j : Nat) t v, Tryd.f6.params[j]? = some t → args[j]? = some v → Value.okWide Tryd.prog W .any base t v)
    (hW : DataW.Whole enc Tryd.prog Tryd.f6.params.toList Rows.sippNilSpec.vars false W args.toList ds gs before) :
    Calls Tryd.prog 6 args W fun e W' => ∃ v, e = .returned v ∧ Rows.sippNilSpec.post enc Tryd.prog Tryd.f6 false true false false W args v W' := by
  have hW' := hW
  obtain ⟨p, q, hA0, hV, rfl, hfz, hnd⟩ := hW
  have hA : DataW.TrodAll enc Tryd.prog W 0 (fun _ => true) true Tryd.f6.params.toList args.toList ds p := hA0
  rw [Tryd.params6] at hA hval
  obtain ⟨v0, vs0, d0, ds0, p0, q0, hargs, rfl, rfl, h0, r0⟩ := trodAll_cons hA
  obtain ⟨rfl, rfl, rfl⟩ := trodAll_nil r0
  obtain rfl : args = #[v0] := by cases args; simp_all
  obtain ⟨rfl, rfl⟩ := trodVars_none hV
  have k0 := h0
  have lt0 : ∀ x ∈ p0, x.block < W.heap.size := by obtain ⟨m, hm⟩ := k0; exact DataW.trod_lt m _ _ _ hm
  clear hA0
  obtain ⟨x0, f0, r0⟩ := arg_fit plain26 (hval 0 26 v0 rfl rfl) h0
  refine (FnQ.law (us := [v0]) (hlaw x0 f0) (.one r0)).mono fun e W' ⟨he, bel⟩ => ?_
  subst he
  exact ⟨_, rfl, _, _, _, [], _, [], hW', trodAll_mk1 (shut_bool Tryd.underlying4 _), trodAll_cons_mk (Below.trod laidOut (by kernel_rfl) (of_decide_eq_true (by kernel_rfl)) k0 bel lt0) trodAll_mk0, rfl, bel.frame _, fun h => by cases h⟩

noncomputable def w0 : Value := .agg #[.int .i64 0, .int .i64 0, .string ByteArray.empty, .slice none 0 0, .int .i64 0, .int .i64 0, .int .i64 0, .int .i64 0]

theorem lifted (hlaw : ∀ x, AFit Tryd.prog 8 26 x → FnQ Tryd.prog 6 [x] [] (fun r _ => r = .bool true)) (os : Os) (started : os.Started) (H : Type) (enc : TypeId × Value → H) :
    ReturnsInHanded {} Tryd.checked os 6 .any (fun w args => (Rows.sippNilSpec.pre enc Tryd.prog Tryd.f6 Rows.sippNilRow.domain false w args ∧ laidMetH Tryd.prog Rows.sippNilRow.laid w) ∧ sizedMet enc Tryd.prog Tryd.f6 (OpenSpec.ofChange Rows.sippNilSpec) false w args)
      (Rows.sippNilSpec.post enc Tryd.prog Tryd.f6 false true false false) := by
  refine returnsInHanded_of_change_and (C := Tryd.checked) (X := fun w _ => laidMetH Tryd.prog Rows.sippNilRow.laid w) (fun _ _ _ hh h => h.of_heap hh) own started (by kernel_rfl) Tryd.func6
    (ChangeSpec.witness_shaped (enc := enc) (C := Tryd.checked) (os := os) (X := fun w _ => laidMetH Tryd.prog Rows.sippNilRow.laid w) false (World.laidAll Tryd.prog os Rows.sippNilRow.laid) #[w0] 8 (World.laidAll_os _ _ _)
      (World.shaped_of_ZipB (by kernel_rfl) (by kernel_rfl)) (by kernel_rfl) (by kernel_rfl) (by kernel_rfl)
      (by rw [MakeChecks.laidMetH_plain _ _ _ (by kernel_rfl)]; exact laidMet_laidAll _ (by kernel_rfl) (by kernel_rfl))) ?_
  intro W base args ds gs before hval0 hW hc _ hL _
  exact contract hlaw H enc W base args ds gs before hval0 hW

theorem said (hlaw : ∀ x, AFit Tryd.prog 8 26 x → FnQ Tryd.prog 6 [x] [] (fun r _ => r = .bool true)) : Rows.SippNilSaid :=
  OpenClaim.holds_of_wide 6 Tryd.f6 rfl rfl rfl rfl rfl rfl rfl ⟨rfl, rfl, rfl, rfl, rfl⟩ rfl rfl rfl rfl rfl (by kernel_rfl) Tryd.func6 (by kernel_rfl)
    (of_decide_eq_true (by kernel_rfl)) (by unfold Func.isWrapper; first | (rw [if_pos (by decide +kernel)]; kernel_rfl) | (rw [if_neg (by decide +kernel)]; exact ⟨rfl, rfl⟩))
    (fun os started H enc _ => lifted hlaw os started H enc)

theorem plain (f : FuncId) (fn : Func) (hf : Tryd.pinned.checked.prog.funcNamed "carfax/carfaxlaw07.SippNil" = some f) (hfn : Tryd.pinned.checked.prog.funcs[f]? = some fn) :
    false = Tryd.pinned.checked.prog.looks [] ∧ ∀ (j : Nat) t, fn.params[j]? = some t → Tryd.pinned.checked.prog.wantsStandIn t = false := by
  obtain rfl : f = 6 := Option.some.inj ((show Tryd.prog.funcNamed "carfax/carfaxlaw07.SippNil" = some 6 by kernel_rfl).symm.trans hf) |>.symm
  obtain rfl : fn = Tryd.f6 := (Option.some.inj (Tryd.func6.symm.trans hfn)).symm
  refine ⟨by kernel_rfl, fun j t ht => ?_⟩
  rw [Tryd.params6] at ht
  obtain rfl : t = 26 := by simpa using Array.mem_of_getElem? ht
  exact (show Tryd.prog.wantsStandIn 26 = false by kernel_rfl)

theorem card (hlaw : ∀ x, AFit Tryd.prog 8 26 x → FnQ Tryd.prog 6 [x] [] (fun r _ => r = .bool true)) : Rows.SippNilCardSaid :=
  Claim7.holds_tied_plain_at .later [] _ _ _ _ (said hlaw) (fun _ h => by cases h) (by kernel_rfl) (fun _ h => by cases h) sippNil_row_tie rfl ⟨rfl, rfl⟩ (by kernel_rfl) rfl plain (by kernel_rfl)
end Go.Proofs.YtcpjmlcfjgbgeaaDoor.sippNil
namespace Go.Proofs.YtcpjmlcfjgbgeaaDoor
/-- The card. -/
theorem sippNil_holds : Rows.SippNilCardSaid := sippNil.card sippNil_law
end Go.Proofs.YtcpjmlcfjgbgeaaDoor
