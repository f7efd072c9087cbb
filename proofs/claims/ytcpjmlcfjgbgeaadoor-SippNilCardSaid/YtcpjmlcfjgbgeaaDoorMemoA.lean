/- Law 07's examples: what 'shown' comes to, found by the interpreter of the abstract logic, and known to be so. -/
import Derived.Test.YtcpjmlcfjgbgeaaDoorBase
set_option linter.unusedVariables false
set_option linter.unusedSimpArgs false
set_option maxRecDepth 100000
namespace Go.Proofs.YtcpjmlcfjgbgeaaDoor
open Go Go.AL

def pureL : List Nat := [98,78,74,76,75,99,50,36,35,34,77,120,144,170,14]
def readL : List Nat := [17,103,26,69,57,108,107,109,56,58]
noncomputable def E0 : EnvR := { tabP := baseP, pure := fun f => pureL.any (Nat.beq f), ro := fun f => readL.any (Nat.beq f) }
theorem E0_ok : E0.toEnv.ok Tryd.prog := ⟨base_ok, fun f g h => by cases h⟩
def m1 : Memo := [(50, [(.agg [(.int .i64 5), (.int .i64 1), (.str ⟨#[48, 97, 97, 98, 49]⟩)])], (.bool true))]
theorem m1_ok : m1.ok Tryd.prog := fun e he => by
  simp only [m1, List.mem_singleton] at he
  subst he
  exact Fn.of_r (d := 30) mixed dsts E0_ok (by kernel_rfl) (by kernel_rfl)
noncomputable def E1 : EnvR := { tabP := m1.tabP baseP, pure := E0.pure, ro := E0.ro }
theorem E1_ok : E1.toEnv.ok Tryd.prog := ⟨m1.tabP_ok m1_ok base_ok, fun f g h => by cases h⟩
def m2 : Memo := [
  (36, [(.str ⟨#[48, 97, 97, 98, 49, 10]⟩)], (.tup [(.agg [(.int .i64 5), (.int .i64 1), (.str ⟨#[48, 97, 97, 98, 49]⟩)]), (.int .i64 0), (.int .i64 0)])),
  (35, [(.agg [(.int .i64 5), (.int .i64 1), (.str ⟨#[48, 97, 97, 98, 49]⟩)]), (.int .i64 0)], (.tup [(.int .i64 0), (.bool false)])),
  (34, [(.agg [(.int .i64 5), (.int .i64 1), (.str ⟨#[48, 97, 97, 98, 49]⟩)]), (.int .i64 0)], (.vs 1 [(.int .i64 1)])),
  (35, [(.agg [(.int .i64 5), (.int .i64 1), (.str ⟨#[48, 97, 97, 98, 49]⟩)]), (.int .i64 1)], (.tup [(.int .i64 0), (.bool true)])),
  (34, [(.agg [(.int .i64 5), (.int .i64 1), (.str ⟨#[48, 97, 97, 98, 49]⟩)]), (.int .i64 1)], (.vs 2 [(.int .i64 2), (.int .i64 0)])),
  (35, [(.agg [(.int .i64 5), (.int .i64 1), (.str ⟨#[48, 97, 97, 98, 49]⟩)]), (.int .i64 2)], (.tup [(.int .i64 0), (.bool true)])),
  (34, [(.agg [(.int .i64 5), (.int .i64 1), (.str ⟨#[48, 97, 97, 98, 49]⟩)]), (.int .i64 2)], (.vs 2 [(.int .i64 3), (.int .i64 1)])),
  (35, [(.agg [(.int .i64 5), (.int .i64 1), (.str ⟨#[48, 97, 97, 98, 49]⟩)]), (.int .i64 3)], (.tup [(.int .i64 1), (.bool true)])),
  (34, [(.agg [(.int .i64 5), (.int .i64 1), (.str ⟨#[48, 97, 97, 98, 49]⟩)]), (.int .i64 3)], (.vs 2 [(.int .i64 4), (.int .i64 2)])),
  (35, [(.agg [(.int .i64 5), (.int .i64 1), (.str ⟨#[48, 97, 97, 98, 49]⟩)]), (.int .i64 4)], (.tup [(.int .i64 0), (.bool false)])),
  (34, [(.agg [(.int .i64 5), (.int .i64 1), (.str ⟨#[48, 97, 97, 98, 49]⟩)]), (.int .i64 4)], (.vs 1 [(.int .i64 3)]))]
theorem m2_ok : m2.ok Tryd.prog := fun e he => by
  have h : (m2.all fun e => E1.pf e.1 && gives (rCall Tryd.prog E1 30 e.1 e.2.1 []) e.2.2) = true := by kernel_rfl
  have := List.all_eq_true.1 h e he
  simp only [Bool.and_eq_true] at this
  exact Fn.of_r (d := 30) mixed dsts E1_ok this.1 this.2
noncomputable def E2 : EnvR := { tabP := m2.tabP E1.tabP, pure := E0.pure, ro := E0.ro }
theorem E2_ok : E2.toEnv.ok Tryd.prog := ⟨m2.tabP_ok m2_ok E1_ok.tabP, fun f g h => by cases h⟩
end Go.Proofs.YtcpjmlcfjgbgeaaDoor
