/- Contracts: the sorts. -/
import Derived.Test.YtknbhgcjgkejiaaC6
import Derived.Test.YtknbhgcjgkejiaaV14
import Derived.Test.YtknbhgcjgkejiaaV15
set_option linter.unusedVariables false
set_option linter.unusedSimpArgs false
set_option linter.constructorNameAsVariable false
namespace Go.Proofs.YtknbhgcjgkejiaaV
open Go.RowKit Go.Proofs
theorem SortVal_sound {s : St} {n : Nat} {l : List Val} (ha : s.at n = some (23, 4, l.map encV)) (hl : l.length < 1000000000) :
    Fsound Try.prog 39 s [.so n 0 l.length, .fn 6 []] fun s' r => r = .tup [] ∧ ∃ l' : List Val, l'.Perm l ∧ l'.Pairwise (fun a b => vcmp a b ≤ 0) ∧ s' = s.put n (23, 4, l'.map encV) :=
  sort_sound Try.sortVal (sz := 4) (by decide) (fun w => run_isAgg (tabOf_ok _) T_Value w) (fun w => run_size (tabOf_ok _) T_Value w) (enters_of' Try.func39 (by kernel_rfl) rfl) flatV.plain (fun a => ⟨_, rfl⟩) pre_vcmp.same pre_vcmp.sw pre_vcmp.tr
    (ok := fun _ => True) (fun a b _ _ => Compare_pure a b) (enters_of' Try.func6 (by kernel_rfl) rfl) (fun _ _ => trivial) (by omega) ha
theorem SortRec_sound {s : St} {n : Nat} {l : List Rec} (ha : s.at n = some (43, 7, l.map encR)) (hl : okL l) :
    Fsound Try.prog 24 s [.so n 0 l.length, .fn 25 []] fun s' r => r = .tup [] ∧ ∃ l' : List Rec, l'.Perm l ∧ l'.Pairwise (fun a b => rcmp a b ≤ 0) ∧ s' = s.put n (43, 7, l'.map encR) :=
  sort_sound Try.sortRec (sz := 7) (by decide) (fun w => run_isAgg (tabOf_ok _) T_Record w) (fun w => run_size (tabOf_ok _) T_Record w) (enters_of' Try.func24 (by kernel_rfl) rfl) plainR (fun a => ⟨_, rfl⟩) pre_rcmp.same pre_rcmp.sw pre_rcmp.tr
    (ok := okR) (fun a b h _ => recCmp_pure a b (by unfold okR at h; omega)) (enters_of' Try.func25 (by kernel_rfl) rfl) hl.2 (by have := hl.1; omega) ha
end Go.Proofs.YtknbhgcjgkejiaaV
