/- The abstract layer, second text: operations that look at no memory. -/
import Derived.Test.YtmcfgljdpjalfaaV1
import Derived.ChangeAlike
set_option linter.unusedVariables false
set_option linter.unusedSimpArgs false
set_option linter.constructorNameAsVariable false
set_option linter.unusedSectionVars false
namespace Go.Proofs.YtmcfgljdpjalfaaV
open Go.RowKit

abbrev Fr := Nat → AV
def upd (F : Fr) (d : Nat) (x : AV) : Fr := fun i => if i = d then x else F i
def updO (F : Fr) (d : Option Nat) (x : AV) : Fr := match d with | some d => upd F d x | none => F
theorem upd_eq (F : Fr) (d : Nat) (x : AV) : upd F d x d = x := by simp [upd]
theorem upd_ne (F : Fr) (d i : Nat) (x : AV) (h : (i == d) = false) : upd F d x i = F i := by simp at h; simp [upd, h]

/-- A constant of the text. -/
def cst : Value → AV
  | .int k n => .int k n
  | .bool b => .bool b
  | .string s => .str s
  | .slice none 0 0 => .sl 0 0 .nil []
  | .pointer none => .nilp
  | .nilFunc => .nilfn
  | _ => .undef
theorem rel_cst (Im : Nat → Prop) (φ : Emb) (s : St) (B : Nat) (w : World) (v : Value) : rel Im φ s B w (cst v) v := by
  unfold cst
  split <;> simp [rel, relF, Mem]

def look (F : Fr) : Operand → AV
  | .tmp t => F t
  | .const v => cst v
  | .func f => .fn f []
  | .global _ => .undef
def Holds (Im : Nat → Prop) (φ : Emb) (s : St) (B : Nat) (w : World) (F : Fr) (a : Act) : Prop := ∀ i, rel Im φ s B w (F i) (a.tmps.getD i undef)
theorem look_ok {Im : Nat → Prop} {φ : Emb} {s : St} {B : Nat} {w : World} {F : Fr} {a : Act} (h : Holds Im φ s B w F a) (x : Operand) : rel Im φ s B w (look F x) (a.eval x) := by
  cases x with
  | tmp t => exact h t
  | const v => exact rel_cst ..
  | func f => simp [look, rel, relL, Act.eval]
  | global g => simp [look, rel]

/-- A row of the table of types. -/
structure TD where
  desc : TypeDesc
  size : Nat
  bytes : Nat
  zero : List Value
  eqok : Bool
abbrev Tab := Nat → Option TD
def TD.agg (d : TD) : Bool := match d.desc with | .struct _ => true | .array _ _ => true | _ => false
def isAggV : Value → Bool | .agg _ => true | _ => false
def TabOk (P : Program) (T : Tab) : Prop := ∀ t d, T t = some d → P.underlying t = some d.desc ∧ ∃ i z, P.info? t = some i ∧ i.size = d.size ∧ i.bytes = d.bytes ∧ i.zero = some z ∧ z.cells.toList = d.zero ∧ d.zero.length = d.size ∧ (∀ u ∈ d.zero, u.oneCell' = true) ∧ (d.eqok = true → P.stoodInHeld t = false ∧ P.eqGuardType P.depth t = false) ∧ isAggV z = d.agg

section
variable {P : Program} {T : Tab} (hT : TabOk P T)
include hT
theorem run_und {t : Nat} {d : TD} (h : T t = some d) (w : World) : (underlying t).run P w = .ok d.desc w := by
  obtain ⟨h1, _⟩ := hT t d h
  simp [underlying, program, Sem.run, bind, Sem.bind, h1, pure]
theorem run_size {t : Nat} {d : TD} (h : T t = some d) (w : World) : (sizeOf t).run P w = .ok d.size w := by
  obtain ⟨_, i, z, h1, h2, _⟩ := hT t d h
  simp [sizeOf, typeInfo, program, Sem.run, bind, Sem.bind, h1, h2, pure]
theorem run_isAgg {t : Nat} {d : TD} (h : T t = some d) (w : World) : (isAgg t).run P w = .ok d.agg w := by
  unfold isAgg
  rw [Sem.run_bind, run_und hT h]
  simp only [Result.andThen_ok, TD.agg]
  cases d.desc <;> rfl
theorem run_zero {t : Nat} {d : TD} (h : T t = some d) (w : World) : ∃ z, (zeroValue t).run P w = .ok z w ∧ z.cells.toList = d.zero ∧ d.zero.length = d.size ∧ ∀ u ∈ d.zero, u.oneCell' = true := by
  obtain ⟨_, i, z, h1, _, _, h2, h3, h4, h5, _⟩ := hT t d h
  exact ⟨z, by simp [zeroValue, typeInfo, program, Sem.run, bind, Sem.bind, h1, h2, pure], h3, h4, h5⟩
end

/-! ### Numbers, bools, strings -/
def binInt (op : BinOp) (k : IntKind) (a b : Int) : Option AV :=
  match op with
  | .add => some (.int k (k.wrap (a + b)))
  | .sub => some (.int k (k.wrap (a - b)))
  | .mul => some (.int k (k.wrap (a * b)))
  | .quo => if b = 0 then none else some (.int k (k.wrap (a.tdiv b)))
  | .rem => if b = 0 then none else some (.int k (a.tmod b))
  | .and => some (.int k (k.wrap (BitVec.ofInt k.bits a &&& BitVec.ofInt k.bits b).toNat))
  | .or => some (.int k (k.wrap (BitVec.ofInt k.bits a ||| BitVec.ofInt k.bits b).toNat))
  | .xor => some (.int k (k.wrap (BitVec.ofInt k.bits a ^^^ BitVec.ofInt k.bits b).toNat))
  | .eql => some (.bool (a == b))
  | .neq => some (.bool (a != b))
  | .lss => some (.bool (decide (a < b)))
  | .leq => some (.bool (decide (a ≤ b)))
  | .gtr => some (.bool (decide (a > b)))
  | .geq => some (.bool (decide (a ≥ b)))
  | _ => none
def shiftInt (op : BinOp) (k : IntKind) (a b : Int) : Option AV :=
  if b < 0 then none else
  match op with
  | .shl => some (.int k (k.wrap (a * 2 ^ (min b.toNat k.bits))))
  | .shr => some (.int k (a.fdiv (2 ^ (min b.toNat k.bits))))
  | _ => none
def binStr (op : BinOp) (a b : ByteArray) : Option AV :=
  match op with
  | .add => if (a.size + b.size : Nat) ≤ 9223372036854775807 then some (.str (a ++ b)) else none
  | .eql => some (.bool (a.toList == b.toList))
  | .neq => some (.bool (!(a.toList == b.toList)))
  | .lss => some (.bool (Op.bytesLess a.toList b.toList))
  | .leq => some (.bool (Op.bytesLess a.toList b.toList || a.toList == b.toList))
  | .gtr => some (.bool (!(Op.bytesLess a.toList b.toList || a.toList == b.toList)))
  | .geq => some (.bool (!Op.bytesLess a.toList b.toList))
  | _ => none
def isShift : BinOp → Bool | .shl | .shr => true | _ => false
def kindOf (T : Tab) (t : Nat) : Option TypeDesc := match T t with | some d => some d.desc | none => none
def eqOp (op : BinOp) (r : Bool) : Option AV := match op with | .eql => some (.bool r) | .neq => some (.bool (!r)) | _ => none
/-- '==' of two values, leaf by leaf. -/
def eqLeaf (k : TypeDesc) (x y : AV) : Option Bool :=
  match k, x, y with
  | .int _, .int k a, .int k' b => if k = k' then some (a == b) else none
  | .bool, .bool a, .bool b => some (a == b)
  | .string, .str a, .str b => some (a == b)
  | _, _, _ => none
def partAV0 (d : TD) (xs : List AV) (off : Nat) : Option AV := if d.agg = true then (if off + d.size ≤ xs.length then some (.agg ((xs.drop off).take d.size)) else none) else xs[off]?
/-- The fields, one by one ('go': of one field). -/
def eqFields (T : Tab) (go : Nat → AV → AV → Option Bool) (xs ys : List AV) : List Field → Option Bool
  | [] => some true
  | f :: r => if f.name = "_" then eqFields T go xs ys r else
    match T f.type with
    | some d => match partAV0 d xs f.offset, partAV0 d ys f.offset with
      | some x, some y => match go f.type x y, eqFields T go xs ys r with
        | some a, some b => some (a && b)
        | _, _ => none
      | _, _ => none
    | none => none
def eqTy (T : Tab) : Nat → Nat → AV → AV → Option Bool
  | 0, _, _, _ => none
  | n + 1, t, x, y =>
    match T t with
    | some d => match x, y with
      | .agg xs, .agg ys => match d.desc with
        | .struct fs => if d.eqok = true then eqFields T (eqTy T n) xs ys fs.toList else none
        | _ => none
      | x, y => eqLeaf d.desc x y
    | none => none
def eqUb (op : BinOp) : Option AV := match op with | .eql => some .ub | .neq => some .ub | _ => none
def binAV (T : Tab) (op : BinOp) (xt : Nat) (x y : AV) : Option AV :=
  match x, y with
  | .int k a, .int k' b => if isShift op then shiftInt op k a b else if k = k' then binInt op k a b else none
  | .str a, .str b => binStr op a b
  | .bool a, .bool b => match kindOf T xt with
    | some .bool => eqOp op (a == b)
    | _ => none
  | .fn _ _, .nilfn => match kindOf T xt with
    | some (.func _ _ _) => eqOp op false
    | _ => none
  | .nilfn, .nilfn => match kindOf T xt with
    | some (.func _ _ _) => eqOp op true
    | _ => none
  | .agg xs, .agg ys => match eqTy T 10 xt (.agg xs) (.agg ys) with
    | some r => eqOp op r
    | none => none
  | .sl _ _ t xs, .sl _ _ .nil [] => match kindOf T xt with
    | some (.slice _) => match t, xs with
      | .nil, _ => eqOp op true
      | _, [] => eqUb op
      | _, _ => eqOp op false
    | _ => none
  | _, _ => none

theorem kindOf_run {P : Program} {T : Tab} (hT : TabOk P T) {t : Nat} {k : TypeDesc} (h : kindOf T t = some k) (w : World) : (underlying t).run P w = .ok k w := by
  unfold kindOf at h
  split at h
  · rename_i d hd
    injection h with h
    subst h
    exact run_und hT hd w
  · cases h
theorem kindOf_und {P : Program} {T : Tab} (hT : TabOk P T) {t : Nat} {k : TypeDesc} (h : kindOf T t = some k) : P.underlying t = some k ∧ True := by
  unfold kindOf at h
  split at h
  · rename_i d hd
    injection h with h
    subst h
    exact ⟨(hT t d hd).1, trivial⟩
  · cases h
theorem equal_of {P : Program} {t : Nat} {x y : Value} {r : Bool} {w : World} (h : ∀ d, (Op.equalIn (d + 1) t x y).run P w = .ok r w) : (Op.equal t x y).run P w = .ok r w := h 9999
theorem eqOp_ok {P : Program} {op : BinOp} {t : Nat} {x y : Value} {r : Bool} {z : AV} (hz : eqOp op r = some z) (h : ∀ w', (Op.equal t x y).run P w' = .ok r w')
    (hb : ∀ op, op = .eql ∨ op = .neq → binOp op t x y = match op with | .eql => (do pure (.bool (← Op.equal t x y)) : Sem Value) | _ => (do pure (.bool (!(← Op.equal t x y))) : Sem Value))
    (hg : ∀ px py w', (eqGuard op t px py x y).run P w' = .ok () w') (Im : Nat → Prop) (φ : Emb) (s : St) (B : Nat) (w : World) (px py : Operand) :
    ∃ v, (∀ w', (do eqGuard op t px py x y; binOp op t x y : Sem Value).run P w' = .ok v w') ∧ rel Im φ s B w z v := by
  unfold eqOp at hz
  split at hz
  · injection hz with hz
    subst hz
    refine ⟨.bool r, fun w' => ?_, by simp [rel]⟩
    rw [Sem.run_bind, hg]
    simp only [Result.andThen_ok]
    rw [hb .eql (.inl rfl)]
    simp [h]
  · injection hz with hz
    subst hz
    refine ⟨.bool (!r), fun w' => ?_, by simp [rel]⟩
    rw [Sem.run_bind, hg]
    simp only [Result.andThen_ok]
    rw [hb .neq (.inr rfl)]
    simp [h]
  · cases hz
theorem equalIn_of {P : Program} {t : Nat} {x y : Value} {r : Bool} {w : World} (n : Nat) (hn : n ≤ 9999) (h : ∀ d, n ≤ d → (Op.equalIn (d + 1) t x y).run P w = .ok r w) : (Op.equal t x y).run P w = .ok r w := h 9999 hn
section
variable {P : Program} {T : Tab} (hT : TabOk P T) {Im : Nat → Prop} {φ : Emb} {s : St} {B : Nat} {w : World}
include hT
theorem part_ok0 {t : Nat} {d : TD} (ht : T t = some d) {xs : List AV} {off : Nat} {x : AV} (h : partAV0 d xs off = some x) {cs : List Value} (hr : relL Im φ s B w xs cs)
    (h1 : ∀ u ∈ cs, u.oneCell' = true) : ∃ v, (∀ w', (part t cs.toArray off).run P w' = .ok v w') ∧ rel Im φ s B w x v := by
  unfold partAV0 at h
  split at h
  · rename_i ha
    split at h
    · injection h with h
      subst h
      refine ⟨.agg ((cs.drop off).take d.size).toArray, fun w' => ?_, ?_⟩
      · unfold part
        rw [Sem.run_bind, run_isAgg hT ht, ha]
        simp only [Result.andThen_ok, if_true]
        rw [Sem.run_bind, run_size hT ht]
        simp [List.take_drop]
      · simp only [rel]
        exact ⟨_, rfl, relL_take _ _ _ (relL_drop _ _ _ hr), fun u hu => h1 u (List.mem_of_mem_drop (List.mem_of_mem_take hu))⟩
    · cases h
  · rename_i ha
    obtain ⟨v, hv, hx⟩ := relL_get _ _ hr _ _ h
    refine ⟨v, fun w' => ?_, hx⟩
    unfold part
    rw [Sem.run_bind, run_isAgg hT ht]
    simp only [Result.andThen_ok, if_neg ha]
    simp [hv]
theorem eqLeaf_ok {t : Nat} {d : TD} (ht : T t = some d) {x y : AV} {r : Bool} (h : eqLeaf d.desc x y = some r) {vx vy : Value} (hx : rel Im φ s B w x vx) (hy : rel Im φ s B w y vy) (n : Nat) (w' : World) :
    (Op.equalIn (n + 1) t vx vy).run P w' = .ok r w' := by
  have hk := run_und hT ht w'
  generalize d.desc = k at h hk
  unfold eqLeaf at h
  split at h
  · simp only [rel] at hx hy
    subst hx hy
    split at h
    · rename_i hkk
      subst hkk
      injection h with h
      subst h
      simp only [Op.equalIn]
      rw [Sem.run_bind, hk]
      simp
    · cases h
  · simp only [rel] at hx hy
    subst hx hy
    injection h with h
    subst h
    simp only [Op.equalIn]
    rw [Sem.run_bind, hk]
    simp
  · simp only [rel] at hx hy
    subst hx hy
    injection h with h
    subst h
    simp only [Op.equalIn]
    rw [Sem.run_bind, hk]
    simp
  · cases h
theorem eqFields_ok (n : Nat) (go : Nat → AV → AV → Option Bool) (hgo : ∀ (t : Nat) (x y : AV) (r : Bool) (vx vy : Value), go t x y = some r → rel Im φ s B w x vx → rel Im φ s B w y vy → ∀ w', (Op.equalIn n t vx vy).run P w' = .ok r w')
    {xs ys : List AV} {cs ds : List Value} (hx : relL Im φ s B w xs cs) (hy : relL Im φ s B w ys ds) (h1 : ∀ u ∈ cs, u.oneCell' = true) (h2 : ∀ u ∈ ds, u.oneCell' = true) : ∀ (fs : List Field) (r : Bool), eqFields T go xs ys fs = some r → ∀ w',
    (forIn fs ((none : Option Bool), ()) fun (f : Field) (_ : Option Bool × Unit) =>
      if f.name ≠ "_" then (do
        let a ← part f.type cs.toArray f.offset
        let b ← part f.type ds.toArray f.offset
        let e ← Op.equalIn n f.type a b
        if (!e) = true then pure (ForInStep.done (some false, ())) else pure (ForInStep.yield (none, ())) : Sem (ForInStep (Option Bool × Unit)))
      else pure (ForInStep.yield (none, ()))).run P w' = .ok (if r = true then (none, ()) else (some false, ())) w'
  | [], r, h, w' => by simp only [eqFields, Option.some.injEq] at h; subst h; rfl
  | f :: fs, r, h, w' => by
    simp only [eqFields] at h
    rw [List.forIn_cons]
    split at h
    · rename_i hn
      simp only [hn, ne_eq, not_true_eq_false, if_false, Sem.run_bind, Sem.run_pure, Result.andThen_ok]
      have := eqFields_ok n go hgo hx hy h1 h2 fs r h w'
      simpa using this
    · rename_i hn
      split at h
      · rename_i d hd
        split at h
        · rename_i x y hpx hpy
          split at h
          · rename_i a b ha hb
            injection h with h
            subst h
            obtain ⟨vx, kx, rx⟩ := part_ok0 hT hd hpx hx h1
            obtain ⟨vy, ky, ry⟩ := part_ok0 hT hd hpy hy h2
            have he := hgo _ _ _ _ _ _ ha rx ry w'
            have ih := eqFields_ok n go hgo hx hy h1 h2 fs b hb w'
            simp only [ne_eq, hn, not_false_eq_true, if_true, Sem.run_bind, kx, ky, he, Result.andThen_ok]
            cases a with
            | false => simp
            | true =>
              simp only [Bool.not_true, Bool.false_eq_true, if_false, Sem.run_pure, Result.andThen_ok, Bool.true_and]
              simpa using ih
          · cases h
        · cases h
      · cases h
theorem eqTy_ok : ∀ (n t : Nat) (x y : AV) (r : Bool) (vx vy : Value), eqTy T n t x y = some r → rel Im φ s B w x vx → rel Im φ s B w y vy → ∀ (m : Nat), n ≤ m → ∀ w', (Op.equalIn m t vx vy).run P w' = .ok r w'
  | 0, t, x, y, r, vx, vy, h, _, _, _, _, _ => by simp [eqTy] at h
  | n + 1, t, x, y, r, vx, vy, h, hx, hy, m, hm, w' => by
    obtain ⟨m, rfl⟩ : ∃ k, m = k + 1 := ⟨m - 1, by omega⟩
    simp only [eqTy] at h
    split at h
    · rename_i d hd
      split at h
      · rename_i xs ys
        split at h
        · rename_i fs hfs
          split at h
          · rename_i hok
            simp only [rel] at hx hy
            obtain ⟨cs, rfl, hx, hx1⟩ := hx
            obtain ⟨ds, rfl, hy, hy1⟩ := hy
            have hh : P.stoodInHeld t = false := by
              obtain ⟨_, _, _, _, _, _, _, _, _, _, h5⟩ := hT t d hd
              exact (h5.1 hok).1
            have hl := eqFields_ok hT m (eqTy T n) (fun t x y r vx vy h1 h2 h3 w' => eqTy_ok n t x y r vx vy h1 h2 h3 m (by omega) w') hx hy hx1 hy1 fs.toList r h w'
            simp only [Op.equalIn]
            rw [Sem.run_bind, run_und hT hd, hfs]
            simp only [Result.andThen_ok]
            rw [Sem.run_bind]
            have hp : (program : Sem Program).run P w' = .ok P w' := rfl
            rw [hp]
            simp only [Result.andThen_ok, hh, Bool.false_eq_true, if_false]
            rw [Sem.run_bind, ← Array.forIn_toList, hl]
            cases r <;> rfl
          · cases h
        · cases h
      · exact eqLeaf_ok hT hd h hx hy m w'
    · cases h
end
theorem binAV_ok {P : Program} {T : Tab} (hT : TabOk P T) {op : BinOp} {xt : Nat} {x y z : AV} (h : binAV T op xt x y = some z) {Im : Nat → Prop} {φ : Emb} {s : St} {B : Nat} {w : World} {vx vy : Value}
    (hx : rel Im φ s B w x vx) (hy : rel Im φ s B w y vy) (px py : Operand) : ∃ v, (∀ w', (do eqGuard op xt px py vx vy; binOp op xt vx vy : Sem Value).run P w' = .ok v w') ∧ rel Im φ s B w z v := by
  unfold binAV at h
  split at h
  · simp only [rel] at hx hy
    subst hx hy
    rename_i k a k' b
    split at h
    · rename_i hs
      unfold shiftInt at h
      split at h
      · cases h
      · rename_i hb
        cases op <;> simp [isShift] at hs <;> simp at h <;> subst h <;> refine ⟨_, fun w' => ?_, by simp only [rel]; rfl⟩ <;> simp [eqGuard, binOp, Op.shift, hb]
    · split at h
      · rename_i hs hk
        subst hk
        cases op with
        | quo => simp only [binInt] at h; split at h <;> cases h; refine ⟨_, fun w' => ?_, by simp only [rel]; rfl⟩; simp [eqGuard, binOp, Op.intDiv, *]
        | rem => simp only [binInt] at h; split at h <;> cases h; refine ⟨_, fun w' => ?_, by simp only [rel]; rfl⟩; simp [eqGuard, binOp, Op.intDiv, *]
        | _ => simp [binInt] at h <;> subst h <;> refine ⟨_, fun w' => ?_, by simp only [rel]; rfl⟩ <;> simp [eqGuard, binOp, Op.intArith, Op.intBits, Op.intCmp]
      · cases h
  · simp only [rel] at hx hy
    subst hx hy
    rename_i a b
    cases op with
    | add =>
      simp only [binStr] at h
      split at h
      · rename_i hb
        cases h
        refine ⟨_, fun w' => ?_, by simp only [rel]; rfl⟩
        have : ¬ (((a.size + b.size : Nat) : Int) > IntKind.i64.max) := by simp only [IntKind.max, IntKind.signed, IntKind.bits]; simp; omega
        simp only [eqGuard, binOp, Op.stringOp, if_neg this]
        simp
      · cases h
    | _ => simp [binStr] at h <;> subst h <;> refine ⟨_, fun w' => ?_, by simp only [rel]; rfl⟩ <;> simp [eqGuard, binOp, Op.stringOp]
  · simp only [rel] at hx hy
    subst hx hy
    rename_i a b
    split at h
    · rename_i hd
      refine eqOp_ok h (fun w' => equal_of fun d => ?_) (fun op ho => ?_) (fun px py w' => ?_) ..
      · simp only [Op.equalIn]
        rw [Sem.run_bind, kindOf_run hT hd]
        simp
      · rcases ho with rfl | rfl <;> simp only [binOp]
      · simp only [eqGuard]
        cases op <;> rfl
    · cases h
  · simp only [rel] at hx hy
    obtain ⟨cs, rfl, _⟩ := hx
    subst hy
    split at h
    · rename_i hd
      refine eqOp_ok h (fun w' => equal_of fun d => ?_) (fun op ho => ?_) (fun px py w' => ?_) ..
      · simp only [Op.equalIn]
        rw [Sem.run_bind, kindOf_run hT hd]
        simp
      · rcases ho with rfl | rfl <;> simp only [binOp]
      · simp only [eqGuard]
        cases op <;> rfl
    · cases h
  · simp only [rel] at hx hy
    subst hx hy
    split at h
    · rename_i hd
      refine eqOp_ok h (fun w' => equal_of fun d => ?_) (fun op ho => ?_) (fun px py w' => ?_) ..
      · simp only [Op.equalIn]
        rw [Sem.run_bind, kindOf_run hT hd]
        simp
      · rcases ho with rfl | rfl <;> simp only [binOp]
      · simp only [eqGuard]
        cases op <;> rfl
    · cases h
  · rename_i xs ys
    split at h
    · rename_i r hr
      have hx' := hx
      have hy' := hy
      simp only [rel] at hx hy
      obtain ⟨cs, rfl, _, _⟩ := hx
      obtain ⟨ds, rfl, _, _⟩ := hy
      refine eqOp_ok h (fun w' => equalIn_of 9 (by omega) fun d hd => eqTy_ok hT 10 xt _ _ r _ _ hr hx' hy' (d + 1) (by omega) w') (fun op ho => ?_) (fun px py w' => ?_) ..
      · rcases ho with rfl | rfl <;> simp only [binOp]
      · have hg : P.eqGuardType P.depth xt = false := by
          simp only [eqTy] at hr
          split at hr
          · rename_i d hd
            split at hr
            · split at hr
              · rename_i hok
                obtain ⟨_, _, _, _, _, _, _, _, _, _, h5⟩ := hT xt d hd
                exact (h5.1 hok).2
              · cases hr
            · cases hr
          · cases hr
        have hp : ∀ w', (program : Sem Program).run P w' = .ok P w' := fun _ => rfl
        simp only [eqGuard]
        cases op <;> first | rfl | (simp only [Bool.not_true, Bool.false_eq_true, if_false, Sem.run_bind, hp, Result.andThen_ok, hg, Bool.not_false, if_true]; rfl)
    · cases h
  · rename_i e sz t xs e' sz'
    split at h
    · rename_i el hk
      simp only [rel] at hx hy
      obtain ⟨cs, _, hm⟩ := hx
      obtain ⟨_, _, rfl, _⟩ := hy
      have hnil : ∀ (r : Bool) (z' : AV), (∀ w', (Op.equal xt vx (.slice none 0 0)).run P w' = .ok r w') → eqOp op r = some z' → ∃ v, (∀ w', (do eqGuard op xt px py vx (.slice none 0 0); binOp op xt vx (.slice none 0 0) : Sem Value).run P w' = .ok v w') ∧ rel Im φ s B w z' v := by
        intro r z' hr hz'
        have hsl : ∃ A n c, vx = .slice A n c := by
          cases t with
          | nil => obtain ⟨rfl, _⟩ := hm; exact ⟨_, _, _, rfl⟩
          | ro => obtain ⟨A, c, rfl, _⟩ := hm; exact ⟨_, _, _, rfl⟩
          | fz => obtain ⟨A, c, rfl, _⟩ := hm; exact ⟨_, _, _, rfl⟩
        obtain ⟨A, n, c, rfl⟩ := hsl
        refine eqOp_ok hz' hr (fun op ho => ?_) (fun px py w' => ?_) ..
        · rcases ho with rfl | rfl <;> simp only [binOp]
        · simp only [eqGuard]
          cases op <;> rfl
      have hrun : ∀ (A : Option Addr) (n c : Nat) (w' : World), (Op.equal xt (.slice A n c) (.slice none 0 0)).run P w' = .ok A.isNone w' := by
        intro A n c w'
        refine equal_of fun d => ?_
        simp only [Op.equalIn]
        rw [Sem.run_bind, kindOf_run hT hk]
        cases A <;> simp
      have some_ok : ∀ (A : Option Addr) (n c : Nat), vx = .slice A n c → eqUb op = some z → ∃ v, (∀ w', (do eqGuard op xt px py vx (.slice none 0 0); binOp op xt vx (.slice none 0 0) : Sem Value).run P w' = .ok v w') ∧ rel Im φ s B w z v := by
        rintro A n c rfl hz
        unfold eqUb at hz
        split at hz
        · injection hz with hz; subst hz
          obtain ⟨v, h1, h2⟩ := hnil A.isNone (.bool A.isNone) (hrun A n c) rfl
          simp only [rel] at h2
          exact ⟨v, h1, by simp only [rel]; exact ⟨_, h2⟩⟩
        · injection hz with hz; subst hz
          obtain ⟨v, h1, h2⟩ := hnil A.isNone (.bool (!A.isNone)) (hrun A n c) rfl
          simp only [rel] at h2
          exact ⟨v, h1, by simp only [rel]; exact ⟨_, h2⟩⟩
        · cases hz
      have pos : ∀ {A : Option Addr} {c : Nat}, (∃ a, A = some a) → vx = .slice A xs.length c → eqOp op false = some z → ∃ v, (∀ w', (do eqGuard op xt px py vx (.slice none 0 0); binOp op xt vx (.slice none 0 0) : Sem Value).run P w' = .ok v w') ∧ rel Im φ s B w z v := by
        rintro A c ⟨a, rfl⟩ hv hz
        refine hnil false z (fun w' => ?_) hz
        rw [hv, hrun]
        rfl
      split at h
      · obtain ⟨rfl, _⟩ := hm
        exact hnil true z (hrun none 0 0) h
      · cases t with
        | nil => obtain ⟨rfl, _⟩ := hm; exact some_ok _ _ _ rfl h
        | ro => obtain ⟨A, c, rfl, _⟩ := hm; exact some_ok _ _ _ rfl h
        | fz => obtain ⟨A, c, rfl, _⟩ := hm; exact some_ok _ _ _ rfl h
      · rename_i hn1 hn2
        have hp : 0 < xs.length := by
          cases xs with
          | nil => exact absurd rfl hn2
          | cons x xs => simp
        cases t with
        | nil => exact absurd rfl hn1
        | ro => obtain ⟨A, c, hv, _, hr⟩ := hm; obtain ⟨a, ha, _⟩ := hr hp; exact pos ⟨a, ha⟩ hv h
        | fz => obtain ⟨A, c, hv, _, hr⟩ := hm; obtain ⟨a, ha, _⟩ := hr hp; exact pos ⟨a, ha⟩ hv h
    · cases h
  · cases h
end Go.Proofs.YtmcfgljdpjalfaaV
