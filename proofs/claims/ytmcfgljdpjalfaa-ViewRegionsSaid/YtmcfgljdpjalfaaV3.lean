/- The abstract layer, third text: operations that look at no memory (addresses, parts, slices, structs). -/
import Derived.Test.YtmcfgljdpjalfaaV2
set_option linter.unusedVariables false
set_option linter.unusedSimpArgs false
set_option linter.constructorNameAsVariable false
set_option linter.unusedSectionVars false
namespace Go.Proofs.YtmcfgljdpjalfaaV
open Go.RowKit

theorem Addr.add_add' (a : Addr) (i j : Nat) : (a.add i).add j = a.add (i + j) := by
  unfold Addr.add
  by_cases h1 : i = 0 <;> by_cases h2 : j = 0 <;> simp [h1, h2, Nat.add_assoc]
theorem Addr.add_lit' (b o n : Nat) : (⟨b, o, none⟩ : Addr).add n = ⟨b, o + n, none⟩ := by
  unfold Addr.add
  by_cases h : n = 0 <;> simp [h]
theorem Addr.add_block' (a : Addr) (i : Nat) : (a.add i).block = a.block := by unfold Addr.add; split <;> rfl

/-- A value's cells, where they are known. -/
def okCells (s : St) : AV → Option (List AV)
  | .agg xs => some xs
  | .so n off len => if s.live n = true then some [.so n off len] else none
  | .elo n i off => if s.live n = true then some [.elo n i off] else none
  | .mo n => if s.live n = true then some [.mo n] else none
  | .undef | .tup _ | .elp .. | .yld _ => none
  | x => some [x]

theorem live_at {s : St} {n : Nat} (h : s.live n = true) : ∃ e sz xs, s.at n = some (e, sz, xs) := by
  unfold St.live at h
  obtain ⟨⟨e, sz, xs⟩, h⟩ := Option.isSome_iff_exists.1 h
  exact ⟨e, sz, xs, h⟩
theorem at_live {s : St} {n e sz : Nat} {xs : List AV} (h : s.at n = some (e, sz, xs)) : s.live n = true := by simp [St.live, h]
theorem at_lt {s : St} {n e sz : Nat} {xs : List AV} (h : s.at n = some (e, sz, xs)) : n < s.row.length := by
  unfold St.at at h
  rcases Nat.lt_or_ge n s.row.length with h' | h'
  · exact h'
  · simp [List.getElem?_eq_none h'] at h
section
variable {Im : Nat → Prop} {φ : Emb} {s : St} {B : Nat} {w : World}
/-- A fixed slice is a slice. -/
theorem Mem.slice {t : Tok} {v : Value} {n : Nat} {cs : List Value} (h : Mem Im φ s B w t v n cs) : ∃ A c, v = .slice A n c ∧ n ≤ c := by
  cases t with
  | nil => obtain ⟨rfl, rfl⟩ := h; exact ⟨_, _, rfl, Nat.le_refl _⟩
  | ro => obtain ⟨A, c, h, hc, _⟩ := h; exact ⟨A, c, h, hc⟩
  | fz => obtain ⟨A, c, h, hc, _⟩ := h; exact ⟨A, c, h, hc⟩
/-- Its cells, where it has elements. -/
theorem Mem.at_ {t : Tok} {A : Option Addr} {m c : Nat} {n : Nat} {cs : List Value} (h : Mem Im φ s B w t (.slice A m c) n cs) (hn : 0 < n) :
    ∃ a, A = some a ∧ a.block < w.heap.size ∧ CellsAt w a cs := by
  cases t with
  | nil => obtain ⟨h1, rfl⟩ := h; omega
  | ro => obtain ⟨A, c, h, hc, h2⟩ := h; cases h; obtain ⟨a, h3, h4, _, _, h5⟩ := h2 hn; exact ⟨a, h3, h4, h5⟩
  | fz => obtain ⟨A, c, h, hc, h2⟩ := h; cases h; obtain ⟨a, h3, h4, _, _, h5⟩ := h2 hn; exact ⟨a, h3, h4, h5⟩
theorem SoAt.slice {n e sz off len : Nat} {v : Value} (h : SoAt φ w n e sz off len v) : ∃ A c, v = .slice A len c ∧ len ≤ c := by
  rcases h.2 with ⟨_, _, rfl, rfl⟩ | ⟨g, cap, p, _, _, k, rfl, _⟩
  · exact ⟨_, _, rfl, Nat.le_refl _⟩
  · exact ⟨_, _, rfl, k⟩
theorem okCells_ok {x : AV} {ys : List AV} {v : Value} (h : okCells s x = some ys) (hr : rel Im φ s B w x v) : relL Im φ s B w ys v.cells.toList ∧ ∀ u ∈ v.cells.toList, u.oneCell' = true := by
  cases x with
  | agg xs =>
    simp only [okCells, Option.some.injEq] at h
    subst h
    simp only [rel] at hr
    obtain ⟨cs, rfl, h1, h2⟩ := hr
    simpa [Value.cells] using ⟨h1, h2⟩
  | sl e sz t xs =>
    simp only [okCells, Option.some.injEq] at h; subst h
    have hr' := hr
    simp only [rel] at hr'
    obtain ⟨cs, _, h2⟩ := hr'
    obtain ⟨A, c, rfl, _⟩ := h2.slice
    simp [Value.cells, relL, Value.oneCell']
    exact hr
  | so n off len =>
    simp only [okCells] at h
    split at h
    · rename_i hl
      injection h with h
      subst h
      have hr' := hr
      simp only [rel] at hr'
      obtain ⟨e, sz, xs, ha⟩ := live_at hl
      obtain ⟨A, c, rfl, _⟩ := (hr'.2 e sz xs ha).2.slice
      simp [Value.cells, relL, Value.oneCell']
      exact hr
    · cases h
  | elo n i off =>
    simp only [okCells] at h
    split at h
    · rename_i hl
      injection h with h
      subst h
      have hr' := hr
      simp only [rel] at hr'
      obtain ⟨e, sz, xs, ha⟩ := live_at hl
      obtain ⟨_, _, g, _, rfl⟩ := hr'.2 e sz xs ha
      simp [Value.cells, relL, Value.oneCell']
      exact hr
    · cases h
  | mo n =>
    simp only [okCells] at h
    split at h
    · rename_i hl
      injection h with h
      subst h
      have hr' := hr
      simp only [rel] at hr'
      obtain ⟨e, sz, xs, ha⟩ := live_at hl
      obtain ⟨_, g, _, rfl⟩ := hr'.2 e sz xs ha
      simp [Value.cells, relL, Value.oneCell']
      exact hr
    · cases h
  | yld l => simp [okCells] at h
  | undef => simp [okCells] at h
  | tup xs => simp [okCells] at h
  | elp => simp [okCells] at h
  | int k n => simp only [okCells, Option.some.injEq] at h; subst h; simp only [rel] at hr; subst hr; simp [Value.cells, relL, rel, Value.oneCell']
  | bool b => simp only [okCells, Option.some.injEq] at h; subst h; simp only [rel] at hr; subst hr; simp [Value.cells, relL, rel, Value.oneCell']
  | str x => simp only [okCells, Option.some.injEq] at h; subst h; simp only [rel] at hr; subst hr; simp [Value.cells, relL, rel, Value.oneCell']
  | nilp => simp only [okCells, Option.some.injEq] at h; subst h; simp only [rel] at hr; subst hr; simp [Value.cells, relL, rel, Value.oneCell']
  | ub => simp only [okCells, Option.some.injEq] at h; subst h; simp only [rel] at hr; obtain ⟨b, rfl⟩ := hr; simp [Value.cells, relL, rel, Value.oneCell']
  | nilfn => simp only [okCells, Option.some.injEq] at h; subst h; simp only [rel] at hr; subst hr; simp [Value.cells, relL, rel, Value.oneCell']
  | ptr b off =>
    simp only [okCells, Option.some.injEq] at h; subst h
    have hr' := hr
    simp only [rel] at hr'; obtain ⟨h1, rfl⟩ := hr'
    simp [Value.cells, relL, Value.oneCell']
    exact hr
  | fn f cap =>
    simp only [okCells, Option.some.injEq] at h; subst h
    have hr' := hr
    simp only [rel] at hr'; obtain ⟨cs, rfl, _⟩ := hr'
    simp [Value.cells, relL, Value.oneCell']
    exact hr
/-- What a row of cells reads as: one value of a type. -/
def partAV (d : TD) (xs : List AV) (off : Nat) : Option AV := if d.agg = true then (if off + d.size ≤ xs.length then some (.agg ((xs.drop off).take d.size)) else none) else xs[off]?

theorem part_ok {P : Program} {T : Tab} (hT : TabOk P T) {t : Nat} {d : TD} (ht : T t = some d) {xs : List AV} {off : Nat} {x : AV} (h : partAV d xs off = some x) {cs : List Value} (hr : relL Im φ s B w xs cs)
    (h1 : ∀ u ∈ cs, u.oneCell' = true) : ∃ v, (∀ w', (part t cs.toArray off).run P w' = .ok v w') ∧ rel Im φ s B w x v := by
  unfold partAV at h
  split at h
  · rename_i ha
    split at h
    · rename_i hl
      injection h with h
      subst h
      refine ⟨.agg ((cs.drop off).take d.size).toArray, fun w' => ?_, ?_⟩
      · unfold part
        rw [Sem.run_bind, run_isAgg hT ht, ha]
        simp only [Result.andThen_ok, if_true]
        rw [Sem.run_bind, run_size hT ht]
        simp [List.take_drop]
      · simp only [rel]
        exact ⟨_, rfl, relL_take _ _ _ (relL_drop _ _ _ hr), fun u hu => h1 u (List.mem_of_mem_drop (List.mem_of_mem_take hu))⟩
    · cases h
  · rename_i ha
    obtain ⟨v, hv, hx⟩ := relL_get _ _ hr _ _ h
    refine ⟨v, fun w' => ?_, hx⟩
    unfold part
    rw [Sem.run_bind, run_isAgg hT ht]
    simp only [Result.andThen_ok, if_neg ha]
    simp [hv]
end

def unAV (op : UnOp) (x : AV) : Option AV :=
  match op, x with
  | .not, .bool b => some (.bool (!b))
  | .not, .ub => some .ub
  | .neg, .int k n => some (.int k (k.wrap (0 - n)))
  | _, _ => none
def convAV (T : Tab) (src dst : Nat) (x : AV) : Option AV :=
  match kindOf T src, kindOf T dst, x with
  | some _, some (.int k), .int _ n => some (.int k (k.wrap n))
  | some .string, some .string, .str s => some (.str s)
  | _, _, _ => none
def fieldAt? (T : Tab) (st f : Nat) : Option (Field × TD) :=
  match kindOf T st with
  | some (.struct fs) => match fs[f]? with
    | some fd => match T fd.type with
      | some d => some (fd, d)
      | none => none
    | none => none
  | _ => none
def fieldAddrAV (T : Tab) (s : St) (st f : Nat) (x : AV) : Option AV :=
  match fieldAt? T st f with
  | some (fd, d) => if d.size = 0 then none else
    match x with
    | .ptr b off => some (.ptr b (off + fd.offset))
    | .elp e sz t xs i off => some (.elp e sz t xs i (off + fd.offset))
    | .elo n i off => if s.live n = true then some (.elo n i (off + fd.offset)) else none
    | _ => none
  | none => none
def fieldAV (T : Tab) (st f : Nat) (x : AV) : Option AV :=
  match fieldAt? T st f, x with
  | some (fd, d), .agg xs => partAV d xs fd.offset
  | _, _ => none
def elemOf? (T : Tab) (t : Nat) : Option (Nat × TD) :=
  match kindOf T t with
  | some (.slice e) => match T e with
    | some d => some (e, d)
    | none => none
  | _ => none
def indexAddrAV (T : Tab) (s : St) (t : Nat) (x ix : AV) : Option AV :=
  match elemOf? T t, x, ix with
  | some (_, d), .sl e sz tk xs, .int _ i => if d.size = sz ∧ 0 ≤ i ∧ i < xs.length then some (.elp e sz tk xs i.toNat 0) else none
  | some (_, d), .so n off len, .int _ i => match s.at n with
    | some (_, sz, _) => if d.size = sz ∧ 0 ≤ i ∧ i < len then some (.elo n (off + i.toNat) 0) else none
    | none => none
  | _, _, _ => none
def indexAV (T : Tab) (t : Nat) (x ix : AV) : Option AV :=
  match kindOf T t, x, ix with
  | some .string, .str s, .int _ i => if 0 ≤ i then (match s[i.toNat]? with | some b => some (.int .u8 b.toNat) | none => none) else none
  | _, _, _ => none
def lenAV (T : Tab) (s : St) (t : Nat) (x : AV) : Option AV :=
  match kindOf T t, x with
  | some (.slice _), .sl _ _ _ xs => some (.int .i64 xs.length)
  | some (.slice _), .so n _ len => if s.live n = true then some (.int .i64 len) else none
  | some .string, .str x => some (.int .i64 x.size)
  | _, _ => none
def boundAV (x : Option AV) (d : Nat) : Option Nat := match x with | none => some d | some (.int _ i) => if 0 ≤ i then some i.toNat else none | _ => none
def sliceAV (T : Tab) (s : St) (t : Nat) (x : AV) (lo hi : Option AV) : Option AV :=
  match x with
  | .sl e sz tk xs => match elemOf? T t, boundAV lo 0, boundAV hi xs.length with
    | some (_, d), some l, some h => if (d.size = sz ∨ l = 0) ∧ l ≤ h ∧ h ≤ xs.length then some (.sl e sz tk ((xs.take h).drop l)) else none
    | _, _, _ => none
  | .so n off len => match elemOf? T t, boundAV lo 0, boundAV hi len, s.at n with
    | some (_, d), some l, some h, some (_, sz, _) => if d.size = sz ∧ l ≤ h ∧ h ≤ len then some (.so n (off + l) (h - l)) else none
    | _, _, _, _ => none
  | .str x => match kindOf T t, boundAV lo 0, boundAV hi x.size with
    | some .string, some l, some h => if l ≤ h ∧ h ≤ x.size then some (.str (x.extract l h)) else none
    | _, _, _ => none
  | _ => none
/-- A struct out of its parts. -/
def fillAV (s : St) (place : Nat → Option (Nat × Nat)) (cells : List AV) : List (Nat × AV) → Option (List AV)
  | [] => some cells
  | (i, x) :: rest =>
    match place i, okCells s x with
    | some (off, size), some ys => if ys.length = size ∧ off + ys.length ≤ cells.length then fillAV s place (cells.take off ++ ys ++ cells.drop (off + ys.length)) rest else none
    | _, _ => none
def placesAV (T : Tab) : List Field → Option (List (Nat × Nat))
  | [] => some []
  | f :: r => match T f.type, placesAV T r with
    | some d, some l => some ((f.offset, d.size) :: l)
    | _, _ => none
def buildAV (T : Tab) (s : St) (t : Nat) (parts : List (Nat × AV)) : Option AV :=
  match T t with
  | some d => match d.desc with
    | .struct fs => match placesAV T fs.toList with
      | some pl => match fillAV s (fun i => pl[i]?) (d.zero.map cst) parts with
        | some xs => some (.agg xs)
        | none => none
      | none => none
    | _ => none
  | none => none

def evP (T : Tab) (F : Fr) (s : St) : Op → Option AV
  | .move x => some (look F x)
  | .assign x => some (look F x)
  | .pick c a b => match look F c with
    | .bool v => some (if v = true then look F a else look F b)
    | _ => none
  | .binOp op xt x y _ => binAV T op xt (look F x) (look F y)
  | .unOp op _ x => unAV op (look F x)
  | .convert src dst x => convAV T src dst (look F x)
  | .extract x i => match look F x with
    | .tup xs => xs[i]?
    | _ => none
  | .field st x f => fieldAV T st f (look F x)
  | .fieldAddr st x f => fieldAddrAV T s st f (look F x)
  | .indexAddr t x ix => indexAddrAV T s t (look F x) (look F ix)
  | .index t x ix => indexAV T t (look F x) (look F ix)
  | .slice t x lo hi none => sliceAV T s t (look F x) (lo.map (look F)) (hi.map (look F))
  | .makeFunc (.func f) first caps => if first.size = 0 then some (.fn f (caps.toList.map (look F))) else none
  | .build t parts => buildAV T s t (parts.toList.map fun p => (p.1, look F p.2))
  | .call c => match c.callee, c.args.toList, c.argTypes.toList with
    | .builtin .len, [x], [t] => lenAV T s t (look F x)
    | _, _, _ => none
  | _ => none
end Go.Proofs.YtmcfgljdpjalfaaV
