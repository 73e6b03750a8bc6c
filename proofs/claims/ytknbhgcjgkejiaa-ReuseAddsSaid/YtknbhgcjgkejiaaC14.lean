/- The statements' arguments, opened. -/
import Derived.Test.YtknbhgcjgkejiaaV13
import Derived.Test.YtknbhgcjgkejiaaC13
set_option linter.unusedVariables false
set_option linter.unusedSimpArgs false
set_option linter.constructorNameAsVariable false
namespace Go.Proofs.YtknbhgcjgkejiaaV
open Go.RowKit Go.Proofs
theorem opensInt : Opens Try.prog 3 (fun n : Int => [.int .i64 n]) fun _ => True := (opens_int Try.underlying3).map id _ _ (fun _ => rfl) fun _ _ => trivial
theorem opensVal : Opens Try.prog 23 (fun v : Val => [.int .i64 v.n, .bool v.flag, .str v.text, .int .i64 v.ref]) fun _ => True :=
  (opens_struct4 Try.underlying23 (opens_int Try.underlying3) (opens_bool Try.underlying4) (opens_string Try.underlying9) (opens_int Try.underlying3) (by decide +kernel)).map (fun a => (⟨a.1, a.2.1, a.2.2.1, a.2.2.2⟩ : Val)) _ _ (fun _ => rfl) fun _ _ => trivial
theorem opensDraw : Opens Try.prog 51 (fun d : DrawV => [.int .i64 d.id, .int .i64 d.a, .int .i64 d.b, .int .i64 d.to]) fun _ => True :=
  (opens_struct4 Try.underlying51 (opens_int Try.underlying3) (opens_int Try.underlying3) (opens_int Try.underlying3) (opens_int Try.underlying3) (by decide +kernel)).map (fun a => (⟨a.1, a.2.1, a.2.2.1, a.2.2.2⟩ : DrawV)) _ _ (fun _ => rfl) fun _ _ => trivial
theorem opensDraws : Opens Try.prog 27 (fun l : List DrawV => [.sl 51 4 .ro (l.map encD)]) fun _ => True :=
  (opens_slice (sz := 4) Try.underlying27 (by decide +kernel) (by decide) opensDraw encD (fun w a cs h1 h2 _ => elem_agg (fun d : DrawV => [.int .i64 d.id, .int .i64 d.a, .int .i64 d.b, .int .i64 d.to]) w a cs h1 h2)).map id _ _ (fun _ => rfl) fun _ _ => trivial
theorem rel_struct {w : World} {xs : List AV} {cs : Array Value} (h : RL w xs cs.toList) (h1 : ∀ u ∈ cs.toList, u.oneCell' = true) : RL w [.agg xs] [.agg cs] := by
  simp only [relL, rel]
  exact ⟨_, _, rfl, ⟨cs.toList, by simp, h, h1⟩, rfl⟩
theorem rel_int {w : World} {k : IntKind} (n : Int) : RL w [.int k n] [.int k n] := by
  simp only [relL, rel]
  exact ⟨_, _, rfl, rfl, rfl⟩
end Go.Proofs.YtknbhgcjgkejiaaV
