/- The statements' arguments, opened. -/
import Derived.Test.YtfodigfliiemeaaA13
import Derived.Test.YtfodigfliiemeaaB6
import Derived.Test.YtfodigfliiemeaaB7
namespace Go.Proofs.YtfodigfliiemeaaA
open Go.RowKit Go.Proofs
theorem opensValue : Opens Try.prog 34 (fun a : Int × Bool × ByteArray × Int => [.int .i64 a.1] ++ ([.bool a.2.1] ++ ([.str a.2.2.1] ++ [.int .i64 a.2.2.2]))) fun _ => True :=
  (opens_struct4 Try.underlying34 (opens_int Try.underlying3) (opens_bool Try.underlying4) (opens_string Try.underlying9) (opens_int Try.underlying3) (by decide +kernel)).map id _ _ (fun _ => rfl) fun _ _ => trivial
theorem opensCell : Opens Try.prog 36 (fun c : Cell => [.int .i64 c.id, .int .i64 c.field, .int .i64 c.n, .bool c.flag, .str c.text, .int .i64 c.ref]) fun _ => True :=
  (opens_struct3 Try.underlying36 (opens_int Try.underlying3) (opens_int Try.underlying3) opensValue (by decide +kernel)).map (fun a => (⟨a.1, a.2.1, a.2.2.1, a.2.2.2.1, a.2.2.2.2.1, a.2.2.2.2.2⟩ : Cell)) _ _ (fun _ => rfl) fun _ _ => trivial
theorem opensCells : Opens Try.prog 22 (fun l : List Cell => [slC .ro l]) fun _ => True :=
  (opens_slice (sz := 6) Try.underlying22 (by decide +kernel) (by decide) opensCell encCell (fun w a cs h1 h2 _ => elem_agg (fun c : Cell => [.int .i64 c.id, .int .i64 c.field, .int .i64 c.n, .bool c.flag, .str c.text, .int .i64 c.ref]) w a cs h1 h2)).map id _ _ (fun _ => rfl) fun _ _ => trivial
theorem opensModel : Opens Try.prog 27 (fun l : List Cell => [slC .ro l]) fun _ => True := opens_struct1 Try.underlying27 opensCells (by decide +kernel)
theorem rel_struct {w : World} {xs : List AV} {cs : Array Value} (h : RL w xs cs.toList) (h1 : ∀ u ∈ cs.toList, u.oneCell' = true) : RL w [.agg xs] [.agg cs] := by
  simp only [relL, rel]
  exact ⟨_, _, rfl, ⟨cs.toList, by simp, h, h1⟩, rfl⟩
end Go.Proofs.YtfodigfliiemeaaA
