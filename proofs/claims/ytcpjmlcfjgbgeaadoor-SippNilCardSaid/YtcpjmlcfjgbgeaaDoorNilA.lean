/- SippNil's contract: with a nil table nothing is planned. -/
import Derived.Test.YtcpjmlcfjgbgeaaDoorLf
import Derived.Test.YtcpjmlcfjgbgeaaDoorShownA
set_option linter.unusedVariables false
set_option linter.unusedSimpArgs false
set_option maxRecDepth 100000
namespace Go.Proofs.YtcpjmlcfjgbgeaaDoor
open Go Go.AL

def m3 : Memo := [(14, [], .bool true)]
theorem m3_ok : m3.ok Tryd.prog := fun e he => by
  simp only [m3, List.mem_singleton] at he
  subst he
  exact shown07
noncomputable def E3 : EnvR := { tabP := m3.tabP baseP, pure := fun f => [17, 24, 27].any (Nat.beq f) }
theorem E3_ok : E3.toEnv.ok Tryd.prog := ⟨m3.tabP_ok m3_ok base_ok, fun f g h => by cases h⟩

/-- A case's cells. -/
theorem case_cells {x : AV} (h : AFit Tryd.prog 8 26 x) : ∃ (W H : Int) (s : ByteArray) (n : Nat) (l : List AV) (a b c d : Int), x = .agg [.int .i64 W, .int .i64 H, .str s, .vs n l, .int .i64 a, .int .i64 b, .int .i64 c, .int .i64 d] := by
  simp only [AFit, Tryd.underlying26] at h
  obtain ⟨xs, rfl, h⟩ := h
  have h1 := h.struct Tryd.underlying26
  obtain ⟨xF, r1, rfl, hF, xL, r2, rfl, hL, xa, r3, rfl, ha, xb, r4, rfl, hb, xc, r5, rfl, hc, xd, r6, rfl, hd, rfl⟩ := h1
  have h2 := hF.struct Tryd.underlying23
  obtain ⟨xW, q1, rfl, hW, xH, q2, rfl, hH, xs, q3, rfl, hs, rfl⟩ := h2
  obtain ⟨W, rfl, _⟩ := hW.int Tryd.underlying3
  obtain ⟨H, rfl, _⟩ := hH.int Tryd.underlying3
  obtain ⟨s, rfl, _⟩ := hs.str Tryd.underlying9
  obtain ⟨els, _, rfl, _⟩ := hL.slice Tryd.underlying24
  obtain ⟨a, rfl, _⟩ := ha.int Tryd.underlying3
  obtain ⟨b, rfl, _⟩ := hb.int Tryd.underlying3
  obtain ⟨c, rfl, _⟩ := hc.int Tryd.underlying3
  obtain ⟨d, rfl, _⟩ := hd.int Tryd.underlying3
  exact ⟨W, H, s, _, _, a, b, c, d, rfl⟩

theorem sippNil_law (x : AV) (h : AFit Tryd.prog 8 26 x) : FnQ Tryd.prog 6 [x] [] (fun r _ => r = .bool true) := by
  obtain ⟨W, H, s, n, l, a, b, c, d, rfl⟩ := case_cells h
  exact FnQ.of_a (d := 30) mixed dsts E3_ok Tryd.func6 (by kernel_rfl)
end Go.Proofs.YtcpjmlcfjgbgeaaDoor
