/- The abstract layer, twelfth text: numbers in slots, and lists that are grown from nil. -/
import Derived.Test.YtfodigfliiemeaaA11
namespace Go.Proofs.YtfodigfliiemeaaA
open Go.RowKit
/-- The number in a slot. -/
def AV.num : AV → Nat
  | .int _ n => n.toNat
  | _ => 0
theorem num_int (k : IntKind) (n : Nat) : (AV.int k n).num = n := rfl
theorem wrap_nat (n : Nat) (h : n ≤ 9223372036854775807) : IntKind.i64.wrap (n : Int) = n := wrap_in _ (by omega) (by omega)
theorem wrap_suc (n : Nat) (h : n < 9223372036854775807) : IntKind.i64.wrap ((n : Int) + 1) = ((n + 1 : Nat) : Int) := wrap_in _ (by omega) (by omega)
theorem wrap_pre (n : Nat) (h : n ≤ 9223372036854775807) (h0 : 0 < n) : IntKind.i64.wrap ((n : Int) - 1) = ((n - 1 : Nat) : Int) := by rw [wrap_in _ (by omega) (by omega)]; omega
theorem ba_beq (a b : ByteArray) : (a == b) = decide (a = b) := by
  rw [Bool.eq_iff_iff]
  cases a with | mk x =>
  cases b with | mk y =>
  show (x == y) = true ↔ _
  simp
/-- The token of a list that is grown: nil at first. -/
def tokO : Option Nat → Tok
  | none => .nil
  | some k => .own k
def okO (s : St) : Option Nat → Bool
  | none => true
  | some k => s.live k
theorem okO_none (s : St) : okO s none = true := rfl
theorem okO_some (s : St) (k : Nat) : okO s (some k) = s.live k := rfl
theorem okO_lt {s : St} {k : Nat} (h : s.live k = true) : k < s.tok.length := by
  unfold St.live at h
  rcases Nat.lt_or_ge k s.tok.length with h' | h'
  · exact h'
  · simp [List.getD_eq_getElem?_getD, h'] at h
theorem okO_new {s : St} {k : Option Nat} (h : okO s k = true) : okO (s.new none) k = true := by
  cases k with
  | none => rfl
  | some k => exact (live_new s none k).2 (.inr ⟨okO_lt h, h, by simp⟩)
theorem live_last' (s : St) (K : Option Nat) : (s.new K).live s.tok.length = true := live_last s K
theorem new_len (s : St) (K : Option Nat) : (s.new K).tok.length = s.tok.length + 1 := by simp [St.new, kill_len]
theorem new_box (s : St) (K : Option Nat) : (s.new K).box = s.box := rfl
theorem okTok (s : St) (k : Option Nat) : (tokO k).ok s = okO s k := by cases k <;> rfl
theorem append_out {T : Tab} {s : St} {t e sz' : Nat} {d : TD} {k : Option Nat} {tk : Tok} {xs ys : List AV} (he : elemOf? T t = some (e, d)) (hk : okO s k = true) (h1 : tk.ok s = true) (h2 : sz' = d.size) (h3 : 0 < d.size)
    (h4 : (xs.length + ys.length) * d.bytes ≤ 140737488355328) (h5 : xs.length + ys.length ≤ 140737488355328) {e' : Nat} :
    appendAV T s t (.sl e d.size (tokO k) xs) (.sl e' sz' tk ys) = some (.sl e d.size (.own s.tok.length) (xs ++ ys), s.new k) := by
  subst h2
  unfold appendAV
  rw [he]
  cases k with
  | none => simp [tokO, appTok, h1, h3, h4, h5]
  | some k =>
    have hk' : s.live k = true := hk
    simp [tokO, appTok, h1, h3, h4, h5, hk']
theorem conv_fz {α : Type} {enc : α → AV} (hp : Plain enc) {s : St} {k : Option Nat} (hk : okO s k = true) (e sz : Nat) (l : List α) : Conv s (.sl e sz (tokO k) (l.map enc)) 0 (.sl e sz .fz (l.map enc)) := by
  refine ⟨[], rfl, List.nodup_nil, by simp, ?_, ?_⟩
  · cases k with
    | none => simp [AV.allT, tokO, Tok.okR, hp.allTL]
    | some k => have hk' : s.live k = true := hk; simp [AV.allT, tokO, Tok.okR, hp.allTL, hk']
  · cases k <;> simp [AV.ret, tokO, Tok.ren, hp.retL, AV.le, leL_refl, Tok.fixed, List.idxOf?, List.findIdx?, List.findIdx?.go]
theorem conv_int (s : St) (k k' : IntKind) (n m : Int) : Conv s (.int k n) 0 (.int k' m) = (k = k' ∧ n = m) := by simp [Conv, AV.allT, AV.ret, le_int]
theorem conv_bool (s : St) (b c : Bool) : Conv s (.bool b) 0 (.bool c) = (b = c) := by simp [Conv, AV.allT, AV.ret, le_bool]
theorem conv_str (s : St) (b c : ByteArray) : Conv s (.str b) 0 (.str c) = (b = c) := by simp [Conv, AV.allT, AV.ret, le_str]
theorem conv_fzl {α : Type} {enc : α → AV} (hp : Plain enc) (s : St) (e sz : Nat) (l : List α) : Conv s (.sl e sz .fz (l.map enc)) 0 (.sl e sz .fz (l.map enc)) :=
  ⟨[], rfl, List.nodup_nil, by simp, by simp [AV.allT, Tok.okR, hp.allTL], by simp [AV.ret, Tok.ren, hp.retL, le_refl]⟩
theorem conv_nil (s : St) (e sz e' sz' : Nat) : Conv s (.sl e sz .nil []) 0 (.sl e' sz' .fz []) :=
  ⟨[], rfl, List.nodup_nil, by simp, by simp [AV.allT, AV.allTL, Tok.okR], by simp [AV.ret, AV.retL, Tok.ren, le_nil, Tok.fixed]⟩
theorem cast_beq (a b : Nat) : ((a : Int) == (b : Int)) = decide (a = b) := by
  rw [Bool.eq_iff_iff, beq_iff_eq, decide_eq_true_eq]
  omega
section
variable (T : Tab) (s : St) (op : BinOp) (xt : Nat)
theorem binAV_int (k k' : IntKind) (a b : Int) : binAV T op xt (.int k a) (.int k' b) = if isShift op then shiftInt op k a b else if k = k' then binInt op k a b else none := rfl
theorem binAV_str (a b : ByteArray) : binAV T op xt (.str a) (.str b) = binStr op a b := rfl
theorem binAV_bool (a b : Bool) : binAV T op xt (.bool a) (.bool b) = match kindOf T xt with | some .bool => eqOp op (a == b) | _ => none := rfl
theorem binAV_fn (f : Nat) (c : List AV) : binAV T op xt (.fn f c) .nilfn = match kindOf T xt with | some (.func _ _ _) => eqOp op false | _ => none := rfl
theorem binAV_nilfn : binAV T op xt .nilfn .nilfn = match kindOf T xt with | some (.func _ _ _) => eqOp op true | _ => none := rfl
theorem binAV_agg (xs ys : List AV) : binAV T op xt (.agg xs) (.agg ys) = match eqTy T 10 xt (.agg xs) (.agg ys) with | some r => eqOp op r | none => none := rfl
theorem okCells_agg (xs : List AV) : okCells s (.agg xs) = some xs := rfl
theorem okCells_sl (e sz : Nat) (t : Tok) (xs : List AV) : okCells s (.sl e sz t xs) = if t.ok s = true then some [.sl e sz t xs] else none := rfl
theorem okCells_int (k : IntKind) (n : Int) : okCells s (.int k n) = some [.int k n] := rfl
theorem okCells_bool (b : Bool) : okCells s (.bool b) = some [.bool b] := rfl
theorem okCells_str (b : ByteArray) : okCells s (.str b) = some [.str b] := rfl
theorem okCells_nilp : okCells s .nilp = some [.nilp] := rfl
theorem okCells_nilfn : okCells s .nilfn = some [.nilfn] := rfl
theorem okCells_ptr (b o : Nat) : okCells s (.ptr b o) = some [.ptr b o] := rfl
theorem okCells_fn (f : Nat) (c : List AV) : okCells s (.fn f c) = some [.fn f c] := rfl
theorem fnOf_fn (f : Nat) (c : List AV) : fnOf (.fn f c) = some (f, c) := rfl
end
/-- A function value that may be nil. -/
def fnO : Option (Nat × List AV) → AV
  | none => .nilfn
  | some p => .fn p.1 p.2
theorem fnO_neq {T : Tab} {t : Nat} (o : Option (Nat × List AV)) {a b : Array Nat} {v : Bool} (h : kindOf T t = some (.func a b v)) : binAV T .neq t (fnO o) .nilfn = some (.bool o.isSome) := by
  cases o <;> simp [binAV, fnO, h, eqOp]
theorem okCells_fnO (s : St) (o : Option (Nat × List AV)) : okCells s (fnO o) = some [fnO o] := by cases o <;> rfl
theorem fnOf_fnO (p : Nat × List AV) : fnOf (fnO (some p)) = some p := rfl
/-- The boxes are as they were, but for q. -/
def Keep (q : Nat) (s s' : St) : Prop := s.box.length ≤ s'.box.length ∧ ∀ p, p < s.box.length → p ≠ q → s'.box[p]? = s.box[p]?
theorem Keep.refl (q : Nat) (s : St) : Keep q s s := ⟨Nat.le_refl _, fun _ _ _ => rfl⟩
theorem Keep.trans {q : Nat} {s s1 s2 : St} (h : Keep q s s1) (k : Keep q s1 s2) : Keep q s s2 := ⟨Nat.le_trans h.1 k.1, fun p hp hq => (k.2 p (Nat.lt_of_lt_of_le hp h.1) hq).trans (h.2 p hp hq)⟩
theorem Keep.grow (q : Nat) (s : St) (y : Nat × List AV) (tk : List Bool) : Keep q s ⟨s.box ++ [y], tk⟩ := ⟨by simp, fun p hp _ => by simp [List.getElem?_append_left hp]⟩
/-- A list that is grown from nil, in a variable. -/
def slO (e sz : Nat) (K : Option Nat) (xs : List AV) : AV := match K with | none => .sl 0 0 .nil [] | some k => .sl e sz (.own k) xs
theorem append_slO {T : Tab} {s : St} {t e sz' : Nat} {d : TD} {k : Option Nat} {tk : Tok} {xs ys : List AV} (he : elemOf? T t = some (e, d)) (hk : okO s k = true) (hn : k = none → xs = []) (h1 : tk.ok s = true) (h2 : sz' = d.size) (h3 : 0 < d.size)
    (h4 : (xs.length + ys.length) * d.bytes ≤ 140737488355328) (h5 : xs.length + ys.length ≤ 140737488355328) {e' : Nat} :
    appendAV T s t (slO e d.size k xs) (.sl e' sz' tk ys) = some (.sl e d.size (.own s.tok.length) (xs ++ ys), s.new k) := by
  cases k with
  | none =>
    have := hn rfl
    subst this h2
    unfold appendAV
    rw [he]
    simp at h4 h5
    simp [slO, appTok, h1, h3, h4, h5]
  | some k => exact append_out (k := some k) he hk h1 h2 h3 h4 h5
theorem okCells_slO {s : St} {k : Option Nat} (hk : okO s k = true) (e sz : Nat) (xs : List AV) : okCells s (slO e sz k xs) = some [slO e sz k xs] := by
  cases k with
  | none => rfl
  | some k => have hk' : s.live k = true := hk; simp [slO, okCells, Tok.ok, hk']
theorem conv_slO {α : Type} {enc : α → AV} (hp : Plain enc) {s : St} {k : Option Nat} (hk : okO s k = true) (e sz : Nat) (l : List α) (hn : k = none → l = []) : Conv s (slO e sz k (l.map enc)) 0 (.sl e sz .fz (l.map enc)) := by
  cases k with
  | none => rw [hn rfl]; exact conv_nil ..
  | some k => exact conv_fz hp (k := some k) hk e sz l
theorem Keep.set {q : Nat} {s : St} {ys : List (Nat × List AV)} {z : Nat × List AV} {tk : List Bool} : Keep q s ⟨(s.box ++ ys).set q z, tk⟩ := by
  refine ⟨by simp, fun p hp hq => ?_⟩
  rw [List.getElem?_set_ne (Ne.symm hq), List.getElem?_append_left hp]
theorem live_box (l l' : List (Nat × List AV)) (t : List Bool) (k : Nat) : (St.mk l t).live k = (St.mk l' t).live k := rfl
theorem okO_box {l l' : List (Nat × List AV)} {t : List Bool} {k : Option Nat} (h : okO ⟨l, t⟩ k = true) : okO ⟨l', t⟩ k = true := by cases k <;> exact h
theorem addToks_zero (s : St) : addToks s 0 = s := by simp [addToks]
/-- A slot that is told to hold another kind of nil. -/
theorem Weak.nil {F : Fr} {s : St} {i : Nat} (e' sz' : Nat) (h : F i = .sl 0 0 .nil []) : Weak F s (upd F i (.sl e' sz' .nil [])) s := by
  refine Weak.le fun j => ?_
  by_cases hj : j = i
  · subst hj
    simp [upd, h, le_nil, Tok.fixed]
  · simp [upd, hj, le_refl]
end Go.Proofs.YtfodigfliiemeaaA
