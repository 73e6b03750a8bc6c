/- Values and records: how they are compared, in plain Lean. -/
import Derived.Sort.Walk0
set_option linter.unusedVariables false
set_option linter.unusedSimpArgs false
set_option linter.constructorNameAsVariable false
set_option linter.unusedSectionVars false
namespace Go.Proofs.YtmcfgljdpjalfaaV
open Go.Proofs
structure Val where
  n : Int
  flag : Bool
  text : ByteArray
  ref : Int
deriving DecidableEq
structure Rec where
  id : Int
  field : Int
  src : List Val
  to : Val
deriving DecidableEq
structure AltV where
  stamp : Int
  v : Val
deriving DecidableEq
def cmpI (a b : Int) : Int := if a < b then -1 else if b < a then 1 else 0
def cmpS (a b : ByteArray) : Int := if Op.bytesLess a.toList b.toList = true then -1 else if a.toList = b.toList then 0 else 1
def b2i (b : Bool) : Int := if b = true then 1 else 0
def orI : List Int → Int
  | [] => 0
  | a :: l => if a = 0 then orI l else a
def vcmp (a b : Val) : Int := orI [cmpI a.n b.n, cmpI (b2i a.flag) (b2i b.flag), cmpS a.text b.text, cmpI a.ref b.ref]
def lcmp : List Val → List Val → Int
  | [], [] => 0
  | [], _ :: _ => -1
  | _ :: _, [] => 1
  | a :: l, b :: m => if vcmp a b = 0 then lcmp l m else vcmp a b
def rcmp (a b : Rec) : Int := orI [cmpI a.id b.id, cmpI a.field b.field, lcmp a.src b.src, vcmp a.to b.to]

/-- A comparison: which of two comes first. -/
structure Pre3 {α : Type} (c : α → α → Int) : Prop where
  same : ∀ a, c a a = 0
  sw : ∀ a b, c b a = - c a b
  tr : ∀ a b d, c a b ≤ 0 → c b d ≤ 0 → c a d ≤ 0
theorem Pre3.key {α β : Type} {c : β → β → Int} (h : Pre3 c) (f : α → β) : Pre3 fun a b => c (f a) (f b) := ⟨fun a => h.same _, fun a b => h.sw _ _, fun a b d => h.tr _ _ _⟩
theorem Pre3.lex {α : Type} {c c' : α → α → Int} (h : Pre3 c) (h' : Pre3 c') : Pre3 fun a b => if c a b = 0 then c' a b else c a b := by
  refine ⟨fun a => by simp [h.same, h'.same], fun a b => ?_, fun a b d => ?_⟩
  · have := h.sw a b; have := h'.sw a b; grind
  · have := h.sw a b; have := h.sw b d; have := h.sw a d
    have := h.tr a b d; have := h.tr b d a; have := h.tr d a b
    have := h.tr d b a; have := h.tr b a d; have := h.tr a d b
    have := h'.tr a b d
    grind
theorem pre_cmpI : Pre3 cmpI := by
  refine ⟨fun a => by simp [cmpI], fun a b => ?_, fun a b d => ?_⟩ <;> unfold cmpI <;> grind
theorem cmpI_zero {a b : Int} : cmpI a b = 0 ↔ a = b := by unfold cmpI; grind
theorem pre_cmpS : Pre3 cmpS := by
  have tri : ∀ a b : List UInt8, a < b ∨ a = b ∨ b < a := fun a b => by
    rcases Decidable.em (a < b) with h | h
    · exact .inl h
    · rcases Decidable.em (b < a) with h' | h'
      · exact .inr (.inr h')
      · exact .inr (.inl (List.le_antisymm (List.not_lt.1 h') (List.not_lt.1 h)))
  have trans : ∀ a b c : List UInt8, a < b → b < c → a < c := fun a b c => List.lt_trans
  have irr : ∀ a : List UInt8, ¬ a < a := List.lt_irrefl
  refine ⟨fun a => ?_, fun a b => ?_, fun a b d => ?_⟩ <;> simp only [cmpS, bytesLess_eq, decide_eq_true_eq]
  · simp [irr]
  · have := tri a.toList b.toList; have := trans a.toList b.toList a.toList; have := irr a.toList; have := irr b.toList; grind
  · have := tri a.toList b.toList; have := tri b.toList d.toList
    have := trans a.toList b.toList d.toList; have := irr a.toList
    grind
theorem ba_toList (a b : ByteArray) : a.toList = b.toList ↔ a = b := ⟨fun h => by
    rw [ByteArray.toList_eq, ByteArray.toList_eq] at h
    exact ByteArray.ext (Array.toList_inj.mp h), fun h => by rw [h]⟩
theorem cmpS_zero {a b : ByteArray} : cmpS a b = 0 ↔ a = b := by
  unfold cmpS
  have : a.toList = b.toList ↔ a = b := ⟨fun h => by
    rw [ByteArray.toList_eq, ByteArray.toList_eq] at h
    exact ByteArray.ext (Array.toList_inj.mp h), fun h => by rw [h]⟩
  split
  · rename_i h
    simp only [bytesLess_eq, decide_eq_true_eq] at h
    constructor
    · intro h; cases h
    · intro h'; subst h'; exact absurd h (List.lt_irrefl _)
  · split <;> simp_all
theorem orI_cons (a : Int) (l : List Int) : orI (a :: l) = if a = 0 then orI l else a := rfl
theorem b2i_inj {a b : Bool} : b2i a = b2i b ↔ a = b := by cases a <;> cases b <;> simp [b2i]
theorem vcmp_zero (a b : Val) : vcmp a b = 0 ↔ a = b := by
  cases a; cases b
  simp only [vcmp, orI, Val.mk.injEq]
  have := @cmpI_zero; have := @cmpS_zero; have := @b2i_inj
  grind
theorem pre_vcmp : Pre3 vcmp := by
  have h := (pre_cmpI.key Val.n).lex ((pre_cmpI.key fun v => b2i v.flag).lex ((pre_cmpS.key Val.text).lex ((pre_cmpI.key Val.ref).lex (c' := fun _ _ => 0) ⟨fun _ => rfl, fun _ _ => rfl, fun _ _ _ _ _ => Int.le_refl _⟩)))
  exact h
theorem lcmp_zero : ∀ a b : List Val, lcmp a b = 0 ↔ a = b
  | [], [] => by simp [lcmp]
  | [], _ :: _ => by simp [lcmp]
  | _ :: _, [] => by simp [lcmp]
  | a :: l, b :: m => by
    have ih := lcmp_zero l m
    have := vcmp_zero a b
    simp only [lcmp, List.cons.injEq]
    grind
theorem lcmp_sw : ∀ a b : List Val, lcmp b a = - lcmp a b
  | [], [] => by simp [lcmp]
  | [], _ :: _ => by simp [lcmp]
  | _ :: _, [] => by simp [lcmp]
  | a :: l, b :: m => by
    have ih := lcmp_sw l m
    have := pre_vcmp.sw a b
    simp only [lcmp]
    grind
theorem lcmp_tr : ∀ a b d : List Val, lcmp a b ≤ 0 → lcmp b d ≤ 0 → lcmp a d ≤ 0
  | [], _, [] => by simp [lcmp]
  | [], _, _ :: _ => by simp [lcmp]
  | _ :: _, [], _ => by simp [lcmp]
  | _ :: _, _ :: _, [] => by simp [lcmp]
  | a :: l, b :: m, d :: n => by
    have ih := lcmp_tr l m n
    have := vcmp_zero a b; have := vcmp_zero b d; have := vcmp_zero a d
    have := pre_vcmp.tr a b d; have := pre_vcmp.tr b d a; have := pre_vcmp.tr d a b
    have := pre_vcmp.sw a b; have := pre_vcmp.sw b d; have := pre_vcmp.sw a d
    simp only [lcmp]
    grind
theorem pre_lcmp : Pre3 lcmp := ⟨fun a => (lcmp_zero a a).2 rfl, lcmp_sw, lcmp_tr⟩
theorem rcmp_zero (a b : Rec) : rcmp a b = 0 ↔ a = b := by
  cases a; cases b
  simp only [rcmp, orI, Rec.mk.injEq]
  have := @cmpI_zero; have := lcmp_zero; have := vcmp_zero
  grind
theorem pre_rcmp : Pre3 rcmp := by
  have h := (pre_cmpI.key Rec.id).lex ((pre_cmpI.key Rec.field).lex ((pre_lcmp.key Rec.src).lex ((pre_vcmp.key Rec.to).lex (c' := fun _ _ => 0) ⟨fun _ => rfl, fun _ _ => rfl, fun _ _ _ _ _ => Int.le_refl _⟩)))
  exact h
end Go.Proofs.YtmcfgljdpjalfaaV
