/- The abstract layer: maps, told as rows whose contents are pairs of key and value. -/
import Derived.Test.YtmcfgljdpjalfaaV6
import Derived.MapKept
import Derived.RangeFuncRecord
set_option linter.unusedVariables false
set_option linter.unusedSimpArgs false
set_option linter.constructorNameAsVariable false
set_option linter.unusedSectionVars false
namespace Go.Proofs.YtmcfgljdpjalfaaV
open Go.RowKit

/-! ### Keys -/
def keyBits1 : AV → AV → Bool
  | .int k a, .int k' b => decide (k = k') && decide (a = b)
  | .str a, .str b => decide (a = b)
  | .bool a, .bool b => decide (a = b)
  | _, _ => false
def allBits : List AV → List AV → Bool
  | [], [] => true
  | x :: xs, y :: ys => keyBits1 x y && allBits xs ys
  | _, _ => false
def keyBits : AV → AV → Bool
  | .agg xs, .agg ys => allBits xs ys
  | x, y => keyBits1 x y
def basicD : TypeDesc → Bool | .int _ | .string | .bool => true | _ => false
/-- A key that may be asked for. -/
def keyOk (T : Tab) (kt : Nat) (k : AV) : Bool :=
  match kindOf T kt, k with
  | some (.struct fs), .agg xs => fs.toList.all fun f => match T f.type with | some d => basicD d.desc && decide (f.offset < xs.length) | none => false
  | some d, _ => basicD d
  | none, _ => false
/-- Where a key stands among pairs, and its value. -/
def findAV (T : Tab) (kt : Nat) (k : AV) : Nat → List AV → Option (Option (Nat × AV))
  | _, [] => some none
  | i, .tup [k', v] :: r => match eqTy T 10 kt k k' with
    | some true => if keyBits k k' = true then some (some (i, v)) else none
    | some false => findAV T kt k (i + 1) r
    | none => none
  | _, _ :: _ => none
/-- A map's pairs, and the types of its keys and values. -/
def mapAV (T : Tab) (s : St) (t : Nat) (m : AV) : Option (Nat × Nat × Nat × Nat × List AV) :=
  match kindOf T t, m with
  | some (.map kt et), .mo n => match s.at n with
    | some (e, 0, xs) => some (kt, et, n, e, xs)
    | _ => none
  | _, _ => none
def zeroAV (T : Tab) (et : Nat) : Option AV := match T et with | some d => zeroElem? d | none => none
def makeMapAV (T : Tab) (s : St) (t : Nat) : Option (AV × St) :=
  match kindOf T t with
  | some (.map _ _) => some (.mo s.row.length, s.new none (t, 0, []))
  | _ => none
def lookAV (v : AV) (ok b : Bool) : AV := if ok = true then .tup [v, .bool b] else v
def lookupAV (T : Tab) (s : St) (t : Nat) (m k : AV) (ok : Bool) : Option AV :=
  match mapAV T s t m with
  | some (kt, et, _, _, xs) => if keyOk T kt k = true then
      match findAV T kt k 0 xs, zeroAV T et with
      | some (some (_, v)), _ => some (lookAV v ok true)
      | some none, some z => some (lookAV z ok false)
      | _, _ => none
    else none
  | none => none
def mapUpdateAV (T : Tab) (s : St) (t : Nat) (m k v : AV) : Option St :=
  match mapAV T s t m with
  | some (kt, _, n, e, xs) => if keyOk T kt k = true then
      match findAV T kt k 0 xs with
      | some (some (i, _)) => some (⟨s.box, s.row.set n (some (e, 0, xs.set i (.tup [k, v])))⟩)
      | some none => some (⟨s.box, s.row.set n (some (e, 0, xs ++ [.tup [k, v]]))⟩)
      | none => none
    else none
  | none => none
def mapEntryAV (T : Tab) (s : St) (t : Nat) (m k : AV) : Option (AV × St) :=
  match mapAV T s t m with
  | some (kt, et, n, e, xs) => if keyOk T kt k = true then
      match findAV T kt k 0 xs, zeroAV T et with
      | some (some (i, v)), _ => some (.tup [v, .int .i64 i], ⟨s.box, s.row.set n (some (e, 0, xs.set i (.tup [k, v])))⟩)
      | some none, some z => some (.tup [z, .int .i64 xs.length], ⟨s.box, s.row.set n (some (e, 0, xs ++ [.tup [k, z]]))⟩)
      | _, _ => none
    else none
  | none => none
def keyAt (xs : List AV) (i : Nat) : Option AV := match xs[i]? with | some (.tup [k, _]) => some k | _ => none
def entryStoreAV (T : Tab) (s : St) (t : Nat) (m i v : AV) : Option St :=
  match mapAV T s t m, i with
  | some (_, _, n, e, xs), .int _ i => if 0 ≤ i then (match keyAt xs i.toNat with
      | some k => some (⟨s.box, s.row.set n (some (e, 0, xs.set i.toNat (.tup [k, v])))⟩)
      | none => none) else none
  | _, _ => none

section
variable {P : Program} {T : Tab} (hT : TabOk P T) {Im : Nat → Prop} {φ : Emb} {s : St} {B : Nat} {w : World}
theorem bits1_eq {x y : AV} (h : keyBits1 x y = true) {v u : Value} (hx : rel Im φ s B w x v) (hy : rel Im φ s B w y u) : v = u ∧ ∀ n, Instr.sameBits n v v = true := by
  unfold keyBits1 at h
  split at h
  · simp only [Bool.and_eq_true, decide_eq_true_eq] at h
    obtain ⟨rfl, rfl⟩ := h
    simp only [rel] at hx hy
    subst hx hy
    exact ⟨rfl, fun n => by simp [Instr.sameBits]⟩
  · simp only [decide_eq_true_eq] at h
    subst h
    simp only [rel] at hx hy
    subst hx hy
    rename_i a
    refine ⟨rfl, fun n => ?_⟩
    simp only [Instr.sameBits]
    cases a with
    | mk x => show (x == x) = true; simp
  · simp only [decide_eq_true_eq] at h
    subst h
    simp only [rel] at hx hy
    subst hx hy
    exact ⟨rfl, fun n => by simp [Instr.sameBits]⟩
  · cases h
theorem allBits_eq : ∀ {xs ys : List AV} {cs ds : List Value}, allBits xs ys = true → relL Im φ s B w xs cs → relL Im φ s B w ys ds → cs = ds ∧ ∀ n, ∀ u ∈ cs, Instr.sameBits n u u = true
  | [], [], cs, ds, _, hx, hy => by
    simp only [relL] at hx hy
    subst hx hy
    exact ⟨rfl, fun _ _ h => by cases h⟩
  | x :: xs, y :: ys, cs, ds, h, hx, hy => by
    simp only [allBits, Bool.and_eq_true] at h
    simp only [relL] at hx hy
    obtain ⟨v, r, rfl, h1, h2⟩ := hx
    obtain ⟨u, q, rfl, k1, k2⟩ := hy
    obtain ⟨rfl, j1⟩ := bits1_eq h.1 h1 k1
    obtain ⟨rfl, j2⟩ := allBits_eq h.2 h2 k2
    refine ⟨rfl, fun n z hz => ?_⟩
    rcases List.mem_cons.1 hz with rfl | hz
    · exact j1 n
    · exact j2 n z hz
  | [], _ :: _, _, _, h, _, _ => by simp [allBits] at h
  | _ :: _, [], _, _, h, _, _ => by simp [allBits] at h
theorem zip_self (l : List Value) (f : Value × Value → Bool) (h : ∀ u ∈ l, f (u, u) = true) : (l.zip l).all f = true := by
  induction l with
  | nil => rfl
  | cons u l ih => simp only [List.zip_cons_cons, List.all_cons, Bool.and_eq_true]; exact ⟨h u (by simp), ih fun u hu => h u (by simp [hu])⟩
theorem bits_eq {x y : AV} (h : keyBits x y = true) {v u : Value} (hx : rel Im φ s B w x v) (hy : rel Im φ s B w y u) : v = u ∧ Instr.sameBits 10000 v v = true := by
  unfold keyBits at h
  split at h
  · simp only [rel] at hx hy
    obtain ⟨cs, rfl, h1, _⟩ := hx
    obtain ⟨ds, rfl, k1, _⟩ := hy
    obtain ⟨rfl, j⟩ := allBits_eq h h1 k1
    refine ⟨rfl, ?_⟩
    show Instr.sameBits (9999 + 1) _ _ = true
    simp only [Instr.sameBits, beq_self_eq_true, Bool.true_and]
    exact zip_self _ _ fun u hu => j 9999 u hu
  · obtain ⟨h1, h2⟩ := bits1_eq h hx hy
    exact ⟨h1, h2 _⟩
include hT
theorem checkFields {e : Bool} {n : Nat} {xs : List AV} {cs : List Value} (hx : relL Im φ s B w xs cs) : ∀ (fs : List Field), (fs.all fun f => match T f.type with | some d => basicD d.desc && decide (f.offset < xs.length) | none => false) = true → ∀ w',
    (forIn fs (⟨⟩ : PUnit) fun (f : Field) (_ : PUnit) => (if f.name ≠ "_" then (do Instr.checkKey e (n + 1) f.type (← part f.type cs.toArray f.offset); pure (ForInStep.yield ⟨⟩)) else pure (ForInStep.yield ⟨⟩) : Sem (ForInStep PUnit))).run P w' = .ok ⟨⟩ w'
  | [], _, w' => rfl
  | f :: fs, h, w' => by
    simp only [List.all_cons, Bool.and_eq_true] at h
    have ih := checkFields (e := e) (n := n) hx fs h.2 w'
    rw [List.forIn_cons, Sem.run_bind]
    have one : (if f.name ≠ "_" then (do Instr.checkKey e (n + 1) f.type (← part f.type cs.toArray f.offset); pure (ForInStep.yield ⟨⟩)) else pure (ForInStep.yield ⟨⟩) : Sem (ForInStep PUnit)).run P w' = .ok (ForInStep.yield ⟨⟩) w' := by
      split
      · have h1 := h.1
        split at h1
        · rename_i d hd
          simp only [Bool.and_eq_true, decide_eq_true_eq] at h1
          obtain ⟨x, hx'⟩ : ∃ x, xs[f.offset]? = some x := ⟨_, List.getElem?_eq_getElem h1.2⟩
          obtain ⟨v, hv, _⟩ := relL_get _ _ hx _ _ hx'
          have hp : (part f.type cs.toArray f.offset).run P w' = .ok v w' := by
            unfold part
            rw [Sem.run_bind, run_isAgg hT hd]
            have : d.agg = false := by unfold TD.agg; cases hdd : d.desc <;> simp_all [basicD]
            simp [this, hv]
          have hc : (Instr.checkKey e (n + 1) f.type v).run P w' = .ok () w' := by
            unfold Instr.checkKey
            rw [Sem.run_bind, run_und hT hd]
            simp only [Result.andThen_ok]
            cases hdd : d.desc <;> simp_all [basicD]
          simp [Sem.run_bind, hp, hc]
        · cases h1
      · rfl
    rw [one]
    exact ih
theorem checkKey_ok {kt : Nat} {k : AV} {v : Value} (h : keyOk T kt k = true) (hk : rel Im φ s B w k v) (e : Bool) (w' : World) : (Instr.checkKey e 10000 kt v).run P w' = .ok () w' := by
  have basic : ∀ d, kindOf T kt = some d → basicD d = true → (Instr.checkKey e 10000 kt v).run P w' = .ok () w' := fun d hd hb => by
    show (Instr.checkKey e (9999 + 1) kt v).run P w' = _
    unfold Instr.checkKey
    rw [Sem.run_bind, kindOf_run hT hd]
    simp only [Result.andThen_ok]
    cases d <;> simp_all [basicD]
  unfold keyOk at h
  split at h
  · rename_i fs xs hd
    simp only [rel] at hk
    obtain ⟨cs, rfl, h1, _⟩ := hk
    have := checkFields hT (e := e) (n := 9998) h1 fs.toList h w'
    show (Instr.checkKey e (9999 + 1) kt _).run P w' = _
    unfold Instr.checkKey
    rw [Sem.run_bind, kindOf_run hT hd]
    simp only [Result.andThen_ok]
    rw [← Array.forIn_toList, Sem.run_bind]
    have h2 := this
    simp only [show (9998 + 1 : Nat) = 9999 from rfl] at h2
    rw [h2]
    rfl
  · exact basic _ (by assumption) h
  · cases h
omit hT in
theorem eqTy_basic {kt : Nat} {d : TypeDesc} (hd : kindOf T kt = some d) (hb : basicD d = true) {x y : AV} {r : Bool} (h : eqTy T 10 kt x y = some r) {v u : Value} (hx : rel Im φ s B w x v) (hy : rel Im φ s B w y u) : Instr.sameNow d v u = some r := by
  unfold kindOf at hd
  split at hd
  · rename_i td htd
    injection hd with hd
    subst hd
    unfold eqTy at h
    simp only [htd] at h
    have leaf : eqLeaf td.desc x y = some r → Instr.sameNow td.desc v u = some r := by
      intro hlf
      clear h
      have h := hlf
      clear hlf
      unfold eqLeaf at h
      split at h
      · rename_i hk
        simp only [rel] at hx hy
        subst hx hy
        split at h
        · rename_i e
          rw [hk]
          simp only [Instr.sameNow, if_pos e]
          exact h
        · cases h
      · rename_i hk
        simp only [rel] at hx hy
        subst hx hy
        rw [hk]
        exact h
      · rename_i hk
        simp only [rel] at hx hy
        subst hx hy
        rw [hk]
        exact h
      · cases h
    split at h
    · split at h
      · rename_i hs; rw [hs] at hb; cases hb
      · cases h
    · exact leaf h
  · cases hd
/-- What 'findAV' says of where a key stands. -/
def Found (Im : Nat → Prop) (φ : Emb) (s : St) (B : Nat) (w : World) (vk : Value) (i0 : Nat) (ms : List MapEntry) : Option (Nat × AV) → Option (Nat × Value) → Prop
  | none, none => True
  | some (i, v), some (j, u) => j = i ∧ i0 ≤ i ∧ rel Im φ s B w v u ∧ ∃ m, ms[i - i0]? = some m ∧ u = m.val ∧ m.key = vk ∧ Instr.sameBits 10000 vk vk = true
  | _, _ => False
omit hT in
theorem findAV_inv {kt i : Nat} {k x : AV} {xs : List AV} {r : Option (Nat × AV)} (h : findAV T kt k i (x :: xs) = some r) : ∃ k' v, x = .tup [k', v] ∧
    ((eqTy T 10 kt k k' = some true ∧ keyBits k k' = true ∧ r = some (i, v)) ∨ (eqTy T 10 kt k k' = some false ∧ findAV T kt k (i + 1) xs = some r)) := by
  cases x with
  | tup ys =>
    match ys, h with
    | [k', v], h =>
      refine ⟨k', v, rfl, ?_⟩
      unfold findAV at h
      cases he : eqTy T 10 kt k k' with
      | none => simp only [he] at h; cases h
      | some b =>
        simp only [he] at h
        cases b with
        | true =>
          simp only at h
          split at h
          · rename_i hb; injection h with h; exact .inl ⟨rfl, hb, h.symm⟩
          · cases h
        | false => exact .inr ⟨rfl, h⟩
    | [], h => simp [findAV] at h
    | [_], h => simp [findAV] at h
    | _ :: _ :: _ :: _, h => simp [findAV] at h
  | _ => simp [findAV] at h
theorem find_ok {kt : Nat} {k : AV} {vk : Value} (hd : ∃ d, kindOf T kt = some d) (hk : rel Im φ s B w k vk) : ∀ (ms : List MapEntry) (xs : List AV) (i0 : Nat) (r : Option (Nat × AV)), relL Im φ s B w xs (ms.map entV) → findAV T kt k i0 xs = some r →
    ∃ q, Found Im φ s B w vk i0 ms r q ∧ (∀ d, kindOf T kt = some d → basicD d = true → Instr.findNow d vk ms i0 = some q) ∧ ∀ w', (Instr.findAsking kt vk ms i0).run P w' = .ok q w'
  | [], xs, i0, r, hx, h => by
    simp only [List.map_nil] at hx
    have : xs = [] := List.eq_nil_of_length_eq_zero (relL_len _ _ hx).symm
    subst this
    simp only [findAV, Option.some.injEq] at h
    subst h
    exact ⟨none, trivial, fun _ _ _ => rfl, fun _ => rfl⟩
  | m :: ms, xs, i0, r, hx, h => by
    cases xs with
    | nil => have := relL_len _ _ hx; simp at this
    | cons x xs =>
      simp only [List.map_cons, relL] at hx
      obtain ⟨v, r', hv, hx1, hx2⟩ := hx
      simp only [List.cons.injEq] at hv
      obtain ⟨rfl, rfl⟩ := hv
      obtain ⟨k', v', rfl, hcase⟩ := findAV_inv h
      simp only [entV, rel] at hx1
      obtain ⟨cs, hcs, hkv⟩ := hx1
      simp only [Value.tuple.injEq] at hcs
      have hcs : cs = [m.key, m.val] := by have := congrArg Array.toList hcs; simpa using this.symm
      subst hcs
      simp only [relL] at hkv
      obtain ⟨_, _, e1, hk', _, _, e2, hv', _⟩ := hkv
      simp only [List.cons.injEq] at e1
      obtain ⟨rfl, rfl⟩ := e1
      simp only [List.cons.injEq] at e2
      obtain ⟨rfl, rfl⟩ := e2
      have hrun : ∀ b, eqTy T 10 kt k k' = some b → ∀ w', (Op.equal kt vk m.key).run P w' = .ok b w' := fun b he w' => equalIn_of 9 (by omega) fun d hd => eqTy_ok hT 10 kt _ _ b _ _ he hk hk' (d + 1) (by omega) w'
      rcases hcase with ⟨he, hb, rfl⟩ | ⟨he, hf⟩
      · obtain ⟨h1, h2⟩ := bits_eq hb hk hk'
        refine ⟨some (i0, m.val), ⟨rfl, Nat.le_refl _, hv', m, by simp, rfl, h1.symm, h2⟩, fun d hd hbd => ?_, fun w' => ?_⟩
        · simp only [Instr.findNow, eqTy_basic hd hbd he hk hk']
        · unfold Instr.findAsking
          rw [Sem.run_bind, hrun true he]
          rfl
      · obtain ⟨q, h1, h2, h3⟩ := find_ok hd hk ms xs (i0 + 1) r hx2 hf
        refine ⟨q, ?_, fun d hd hbd => ?_, fun w' => ?_⟩
        · cases r with
          | none => cases q with
            | none => trivial
            | some q => exact h1.elim
          | some r => cases q with
            | none => exact h1.elim
            | some q =>
              obtain ⟨g1, g2, g3, m', g4, g5⟩ := h1
              refine ⟨g1, by omega, g3, m', ?_, g5⟩
              have : r.1 - i0 = (r.1 - (i0 + 1)) + 1 := by omega
              rw [this, List.getElem?_cons_succ]
              exact g4
        · simp only [Instr.findNow, eqTy_basic hd hbd he hk hk']
          exact h2 d hd hbd
        · unfold Instr.findAsking
          rw [Sem.run_bind, hrun false he]
          simp only [Result.andThen_ok, Bool.false_eq_true, if_false]
          exact h3 w'
theorem findKey_ok {kt : Nat} {k : AV} {vk : Value} (hok : keyOk T kt k = true) (hk : rel Im φ s B w k vk) {ms : List MapEntry} {xs : List AV} {r : Option (Nat × AV)} (hx : relL Im φ s B w xs (ms.map entV)) (h : findAV T kt k 0 xs = some r) :
    ∃ q, Found Im φ s B w vk 0 ms r q ∧ ∀ w', (Instr.findKey kt vk ms).run P w' = .ok q w' := by
  have hd : ∃ d, kindOf T kt = some d := by
    unfold keyOk at hok
    split at hok
    · exact ⟨_, by assumption⟩
    · exact ⟨_, by assumption⟩
    · cases hok
  obtain ⟨q, h1, h2, h3⟩ := find_ok hT hd hk ms xs 0 r hx h
  obtain ⟨d, hd⟩ := hd
  refine ⟨q, h1, fun w' => ?_⟩
  unfold Instr.findKey
  rw [Sem.run_bind, kindOf_run hT hd]
  simp only [Result.andThen_ok]
  by_cases hb : basicD d = true
  · rw [h2 d hd hb]
    rfl
  · cases ms with
    | nil =>
      simp only [Instr.findNow]
      have := h3 w'
      simpa [Instr.findAsking] using this
    | cons m ms =>
      have : Instr.findNow d vk (m :: ms) 0 = none := by
        have hs : ∀ u, Instr.sameNow d vk u = none := fun u => by
          unfold Instr.sameNow
          split <;> simp_all [basicD]
        simp only [Instr.findNow, hs]
      rw [this]
      exact h3 w'
theorem zeroAV_ok {et : Nat} {z : AV} (h : zeroAV T et = some z) : ∃ v, (∀ w', (zeroValue et).run P w' = .ok v w') ∧ rel Im φ s B w z v := by
  unfold zeroAV at h
  split at h
  · rename_i d hd
    obtain ⟨_, i, zv, e1, _, _, e2, e3, e4, e5, _, e6⟩ := hT et d hd
    have hrun : ∀ w', (zeroValue et).run P w' = .ok zv w' := fun w' => by simp [zeroValue, typeInfo, program, Sem.run, bind, Sem.bind, e1, e2, pure]
    obtain ⟨v, h1, h2⟩ := zeroElem_ok (Im := Im) (φ := φ) (s := s) (B := B) (w := w) h e5
    refine ⟨zv, hrun, ?_⟩
    have hv : v = zv ∨ True := .inr trivial
    unfold zeroElem? at h
    split at h
    · rename_i ha
      injection h with h
      subst h
      rw [ha] at e6
      cases zv <;> simp [isAggV] at e6
      rename_i cs
      simp only [rel]
      refine ⟨d.zero, by rw [← e3]; simp [Value.cells], ?_, e5⟩
      simp only [rel] at h2
      obtain ⟨cs', hv', hr, _⟩ := h2
      subst hv'
      have : cs' = d.zero := by rw [← h1]; simp [Value.cells]
      rw [this] at hr
      exact hr
    · rename_i ha
      split at h
      · rename_i u hu
        injection h with h
        subst h
        have hz : zv.cells = #[zv] := by
          have : isAggV zv = false := by rw [e6]; simpa using ha
          cases zv <;> simp [isAggV] at this <;> rfl
        have : zv = u := by rw [hz, hu] at e3; simpa using e3
        subst this
        exact rel_cst ..
      · cases h
  · cases h
theorem mapAV_spec {t kt et n e : Nat} {m : AV} {xs : List AV} (h : mapAV T s t m = some (kt, et, n, e, xs)) (hI : Inv Im φ s B w) {vm : Value} (hm : rel Im φ s B w m vm) :
    kindOf T t = some (.map kt et) ∧ s.at n = some (e, 0, xs) ∧ m = .mo n ∧ ∃ g ms, vm = .map (some g) ∧ φ.rw n = some g ∧ w.heap[g]? = some (.map ms ms.size) ∧ (∀ i (m : MapEntry), ms[i]? = some m → m.born = i) ∧ relL Im φ s B w xs (ms.toList.map entV) := by
  unfold mapAV at h
  split at h
  · rename_i kt' et' n' hk
    split at h
    · rename_i e' xs' ha
      simp only [Option.some.injEq, Prod.mk.injEq] at h
      obtain ⟨rfl, rfl, rfl, rfl, rfl⟩ := h
      simp only [rel] at hm
      obtain ⟨_, g, hg, rfl⟩ := hm.2 _ _ _ ha
      obtain ⟨g', ms, clock, h1, h2, ⟨rfl, h3⟩, h4⟩ := (hI.rows _ _ _ _ ha).mapOk
      rw [hg] at h1
      injection h1 with h1
      subst h1
      exact ⟨hk, ha, rfl, g, ms, rfl, hg, h2, h3, h4⟩
    · cases h
  · cases h
theorem makeMap_ok (hI : Inv Im φ s B w) {t : Nat} {x : AV} {s' : St} (h : makeMapAV T s t = some (x, s')) :
    ∃ φ' v w', (Instr.makeMap t none).run P w = .ok v w' ∧ Step B φ s w φ' s' w' ∧ Inv Im φ' s' B w' ∧ rel Im φ' s' B w' x v ∧ Below w.heap.size w w' := by
  unfold makeMapAV at h
  split at h
  · simp only [Option.some.injEq, Prod.mk.injEq] at h
    obtain ⟨rfl, rfl⟩ := h
    have hrow : RowOk Im φ s B w (w.alloc (.map #[] 0)) (some w.heap.size) t 0 [] := .inr ⟨rfl, w.heap.size, #[], 0, rfl, heap_alloc_new w _, ⟨rfl, fun i m h => by simp at h⟩, by simp [relL]⟩
    obtain ⟨h1, h2⟩ := hI.row none none (.inl rfl) (World.grownBy_alloc w _ none) (Nat.le_refl _) (some w.heap.size) (fun g hg' => by
      injection hg' with hg'
      subst hg'
      exact ⟨by simp, .inr (Nat.le_refl _)⟩) hrow
    refine ⟨_, .map (some w.heap.size), _, ?_, h1, h2, ?_, (Below.refl _ _).alloc (Nat.le_refl _) _⟩
    · simp [Instr.makeMap, Sem.run_bind, run_newObj_alloc]
    · simp only [rel]
      refine ⟨by simp [St.new, kill_len], fun e sz xs ha => ?_⟩
      rw [at_new, if_pos rfl] at ha
      simp only [Option.some.injEq, Prod.mk.injEq] at ha
      obtain ⟨rfl, rfl, rfl⟩ := ha
      exact ⟨rfl, _, by simp, rfl⟩
  · cases h
theorem lookup_ok (hI : Inv Im φ s B w) {t : Nat} {m k z : AV} {vm vk : Value} {ok : Bool} (h : lookupAV T s t m k ok = some z) (hm : rel Im φ s B w m vm) (hk : rel Im φ s B w k vk) :
    ∃ u, (∀ w', Below w.heap.size w w' → (Instr.lookup t vm vk ok).run P w' = .ok u w') ∧ rel Im φ s B w z u := by
  unfold lookupAV at h
  split at h
  · rename_i kt et n e xs hmap
    obtain ⟨h1, ha, _, g, ms, rfl, hg, hh, _, hr⟩ := mapAV_spec hT hmap hI hm
    split at h
    · rename_i hok
      have hlt : g < w.heap.size := (Array.getElem?_eq_some_iff.1 hh).1
      have pre : ∀ w', Below w.heap.size w w' → (getObj g).run P w' = .ok (.map ms ms.size) w' := fun w' hb => MapKept.run_getObj_map (by rw [hb.block g hlt]; exact hh)
      have goal : ∀ q zz (b : Bool), (∀ w', (Instr.findKey kt vk ms.toList).run P w' = .ok q w') → (∀ w', ((match q with | some (_, v) => pure (v, true) | none => do pure (← zeroValue et, false)) : Sem (Value × Bool)).run P w' = .ok (zz, b) w') →
          ∀ w', Below w.heap.size w w' → (Instr.lookup t (.map (some g)) vk ok).run P w' = .ok (if ok = true then .tuple #[zz, .bool b] else zz) w' := by
        intro q zz b hq hz w' hb
        unfold Instr.lookup
        rw [Sem.run_bind, kindOf_run hT h1]
        simp only [Result.andThen_ok, Sem.run_bind, pre w' hb, Sem.run_pure]
        rw [checkKey_ok hT hok hk]
        simp only [Result.andThen_ok]
        rw [hq]
        simp only [Result.andThen_ok]
        have := hz w'
        cases q with
        | none =>
          simp only [Sem.run_bind] at this ⊢
          generalize Sem.run P (zeroValue et) w' = R at this ⊢
          cases R with
          | ok zv w1 =>
            simp only [Result.andThen_ok, Sem.run_pure] at this ⊢
            injection this with h1 h2
            injection h1 with h1 h3
            subst h1 h2 h3
            rfl
          | halt x w1 => cases this
        | some q =>
          simp only [Sem.run_pure] at this ⊢
          injection this with h1 h2
          injection h1 with h1 h3
          subst h1 h3
          rfl
      split at h
      · rename_i i v hf
        injection h with h
        subst h
        obtain ⟨q, h3, h4⟩ := findKey_ok hT hok hk hr hf
        cases q with
        | none => exact h3.elim
        | some q =>
          obtain ⟨q1, q2⟩ := q
          obtain ⟨_, _, hv, _⟩ := h3
          refine ⟨_, goal _ q2 true h4 (fun w' => rfl), ?_⟩
          unfold lookAV
          cases ok
          · exact hv
          · simp only [if_true, rel]
            exact ⟨[q2, .bool true], rfl, by simp only [relL]; exact ⟨_, _, rfl, hv, _, _, rfl, by simp [rel], rfl⟩⟩
      · rename_i zz hf hzz
        injection h with h
        subst h
        obtain ⟨q, h3, h4⟩ := findKey_ok hT hok hk hr hf
        cases q with
        | some q => exact h3.elim
        | none =>
          obtain ⟨zv, hz1, hz2⟩ := zeroAV_ok hT (Im := Im) (φ := φ) (s := s) (B := B) (w := w) hzz
          refine ⟨_, goal _ zv false h4 (fun w' => by simp [Sem.run_bind, hz1]), ?_⟩
          unfold lookAV
          cases ok
          · exact hz2
          · simp only [if_true, rel]
            exact ⟨[zv, .bool false], rfl, by simp only [relL]; exact ⟨_, _, rfl, hz2, _, _, rfl, by simp [rel], rfl⟩⟩
      · cases h
    · cases h
  · cases h
omit hT in
/-- A map's block turns: other pairs, as many or more. -/
theorem Inv.putMap (hI : Inv Im φ s B w) {n e : Nat} {xs xs' : List AV} (ha : s.at n = some (e, 0, xs)) {g : Nat} (hg : φ.rw n = some g) {ms ms' : Array MapEntry} (h0 : w.heap[g]? = some (.map ms ms.size)) (hb : ∀ i (m : MapEntry), ms'[i]? = some m → m.born = i)
    (hr : relL Im φ s B w xs' (ms'.toList.map entV)) : Step B φ s w φ ⟨s.box, s.row.set n (some (e, 0, xs'))⟩ (w.putObj g (.map ms' ms'.size)) ∧ Inv Im φ ⟨s.box, s.row.set n (some (e, 0, xs'))⟩ B (w.putObj g (.map ms' ms'.size)) := by
  have hnlt := at_lt ha
  have hat : ∀ m, (St.mk s.box (s.row.set n (some (e, 0, xs')))).at m = if m = n then some (e, 0, xs') else s.at m := by
    intro m
    unfold St.at
    simp only [List.getElem?_set]
    by_cases h : n = m
    · subst h; simp [hnlt]
    · rw [if_neg h, if_neg (Ne.symm h)]
  have hlive : ∀ m, (St.mk s.box (s.row.set n (some (e, 0, xs')))).live m = s.live m := by
    intro m
    unfold St.live
    rw [hat]
    split
    · rename_i h; subst h; simp [ha]
    · rfl
  have hM : Mut φ s g := .inr ⟨n, at_live ha, hg⟩
  have hother : ∀ g', g' ≠ g → (w.putObj g (.map ms' ms'.size)).heap[g']? = w.heap[g']? := fun g' hg' => World.putObj_heap_other hg'
  have hmut : ∀ g', Mut φ ⟨s.box, s.row.set n (some (e, 0, xs'))⟩ g' ↔ Mut φ s g' := by
    intro g'
    unfold Mut
    simp only [hlive]
  have hne : ∀ m, s.live m = true → m ≠ n → ∀ g', φ.rw m = some g' → g' ≠ g := fun m hm hmn g' hg' e => hmn (hI.rwinj m n g' hm (at_live ha) hg' (e ▸ hg))
  have hstep : Step B φ s w φ ⟨s.box, s.row.set n (some (e, 0, xs'))⟩ (w.putObj g (.map ms' ms'.size)) := by
    refine ⟨by simp, Nat.le_refl _, fun _ _ => rfl, fun m e2 sz2 xs2 hm hl2 => ?_, fun g' hg' hm => ⟨hother g' fun e => hm (e ▸ hM), fun h => hm ((hmut g').1 h)⟩, ⟨rfl, rfl, rfl, by rw [World.putObj_size]; exact Nat.le_refl _, fun k hk => hother k (by have := (hI.bnd _ hM).1; omega)⟩, Nat.le_refl _⟩
    rw [hat] at hl2
    split at hl2
    · rename_i hmn
      subst hmn
      simp only [Option.some.injEq, Prod.mk.injEq] at hl2
      obtain ⟨rfl, rfl, rfl⟩ := hl2
      refine ⟨⟨xs, ha, fun h => absurd h (Nat.lt_irrefl _)⟩, rfl, fun cap hc => ?_⟩
      obtain ⟨g2, cur2, j1, j2, _⟩ := hc
      rw [hg] at j1
      injection j1 with j1
      subst j1
      rw [h0] at j2
      cases j2
    · rename_i hmn
      exact ⟨⟨xs2, hl2, fun _ => rfl⟩, rfl, fun cap hc => RowAt.later hc rfl fun g' hg' => hother g' (hne m (at_live hl2) hmn g' hg')⟩
  refine ⟨hstep, by rw [World.putObj_size]; exact hI.hB, fun g' hm => by rw [World.putObj_size]; exact hI.bnd g' ((hmut g').1 hm), hI.bxinj, fun m m' g' hm hm' => hI.rwinj m m' g' (by rwa [hlive] at hm) (by rwa [hlive] at hm'), fun b m hb hm => hI.bxrw b m hb (by rwa [hlive] at hm), fun b ty cs hb => ?_, fun m e2 sz2 xs2 hl2 => ?_⟩
  · obtain ⟨vs, k1, k2, k3⟩ := hI.cells b ty cs hb
    have hblt : b < s.box.length := (List.getElem?_eq_some_iff.1 hb).1
    exact ⟨vs, by rw [hother _ fun e => hI.bxrw b n hblt (at_live ha) (by rw [hg, e])]; exact k1, relL_step hstep _ _ k2, k3⟩
  · rw [hat] at hl2
    split at hl2
    · rename_i hmn
      subst hmn
      simp only [Option.some.injEq, Prod.mk.injEq] at hl2
      obtain ⟨rfl, rfl, rfl⟩ := hl2
      exact .inr ⟨rfl, g, ms', _, hg, World.putObj_heap_same (Array.getElem?_eq_some_iff.1 h0).1, ⟨rfl, hb⟩, relL_step hstep _ _ hr⟩
    · rename_i hmn
      exact RowOk.step hstep (RowOk.later (hI.rows m e2 sz2 xs2 hl2) fun g' hg' => hother g' (hne m (at_live hl2) hmn g' hg'))
omit hT in
theorem relL_setE : ∀ {xs : List AV} {vs : List Value}, relL Im φ s B w xs vs → ∀ (i : Nat) {x : AV} {v : Value}, rel Im φ s B w x v → relL Im φ s B w (xs.set i x) (vs.set i v)
  | [], vs, h, i, x, v, hx => by simp only [relL] at h; subst h; simp [relL]
  | y :: xs, vs, h, 0, x, v, hx => by
    simp only [relL] at h
    obtain ⟨u, r, rfl, _, h2⟩ := h
    simp only [List.set_cons_zero, relL]
    exact ⟨_, _, rfl, hx, h2⟩
  | y :: xs, vs, h, i + 1, x, v, hx => by
    simp only [relL] at h
    obtain ⟨u, r, rfl, h1, h2⟩ := h
    simp only [List.set_cons_succ, relL]
    exact ⟨_, _, rfl, h1, relL_setE h2 i hx⟩
omit hT in
theorem ent_rel {k v : AV} {vk vv : Value} (hk : rel Im φ s B w k vk) (hv : rel Im φ s B w v vv) (b : Nat) : rel Im φ s B w (.tup [k, v]) (entV ⟨vk, vv, b⟩) := by
  simp only [rel, entV]
  exact ⟨[vk, vv], rfl, by simp only [relL]; exact ⟨_, _, rfl, hk, _, _, rfl, hv, rfl⟩⟩
omit hT in
theorem set_map {ms : Array MapEntry} {i : Nat} {m m' : MapEntry} (hi : ms[i]? = some m) (f : MapEntry → MapEntry) (hf : f m = m') (hb : ∀ i (m : MapEntry), ms[i]? = some m → m.born = i) (hbm : m'.born = m.born) {xs : List AV} (hr : relL Im φ s B w xs (ms.toList.map entV)) {x : AV} (hx : rel Im φ s B w x (entV m')) :
    (ms.modify i f).size = ms.size ∧ (∀ j (q : MapEntry), (ms.modify i f)[j]? = some q → q.born = j) ∧ relL Im φ s B w (xs.set i x) ((ms.modify i f).toList.map entV) := by
  refine ⟨by simp, fun j q hq => ?_, ?_⟩
  · rw [Array.getElem?_modify] at hq
    split at hq
    · rename_i hij
      subst hij
      rw [hi] at hq
      simp only [Option.map_some, Option.some.injEq] at hq
      rw [← hq, hf, hbm]
      exact hb _ _ hi
    · exact hb _ _ hq
  · have : (ms.modify i f).toList.map entV = (ms.toList.map entV).set i (entV m') := by
      apply List.ext_getElem?
      intro j
      rw [List.getElem?_map, Array.getElem?_toList, Array.getElem?_modify, List.getElem?_set, List.getElem?_map, Array.getElem?_toList]
      by_cases hij : i = j
      · subst hij
        have hlt : i < ms.size := (Array.getElem?_eq_some_iff.1 hi).1
        rw [if_pos rfl, if_pos rfl, hi]
        simp [hf, hlt]
      · rw [if_neg hij, if_neg hij]
    rw [this]
    exact relL_setE hr i hx
omit hT in
theorem add_map {ms : Array MapEntry} {m : MapEntry} (hbm : m.born = ms.size) (hb : ∀ i (m : MapEntry), ms[i]? = some m → m.born = i) {xs : List AV} (hr : relL Im φ s B w xs (ms.toList.map entV)) {x : AV} (hx : rel Im φ s B w x (entV m)) :
    (ms.push m).size = ms.size + 1 ∧ (∀ j (q : MapEntry), (ms.push m)[j]? = some q → q.born = j) ∧ relL Im φ s B w (xs ++ [x]) ((ms.push m).toList.map entV) := by
  refine ⟨by simp, fun j q hq => ?_, ?_⟩
  · rw [Array.getElem?_push] at hq
    split at hq
    · rename_i hj
      injection hq with hq
      rw [← hq, hbm, hj]
    · exact hb _ _ hq
  · rw [Array.toList_push, List.map_append]
    exact relL_append _ _ _ _ hr (by simp only [List.map_cons, List.map_nil, relL]; exact ⟨_, _, rfl, hx, rfl⟩)
theorem mapUpdate_ok (hI : Inv Im φ s B w) {t : Nat} {m k v : AV} {vm vk vv : Value} {s' : St} (h : mapUpdateAV T s t m k v = some s') (hm : rel Im φ s B w m vm) (hk : rel Im φ s B w k vk) (hv : rel Im φ s B w v vv) :
    ∃ w', (Instr.mapUpdate t vm vk vv).run P w = .ok () w' ∧ Step B φ s w φ s' w' ∧ Inv Im φ s' B w' := by
  unfold mapUpdateAV at h
  split at h
  · rename_i kt et n e xs hmap
    obtain ⟨h1, ha, _, g, ms, rfl, hg, hh, hborn, hr⟩ := mapAV_spec hT hmap hI hm
    split at h
    · rename_i hok
      have goal : ∀ q w1, (∀ w', (Instr.findKey kt vk ms.toList).run P w' = .ok q w') → (∀ (_ : True), ((match q with
          | some (i, _) => (do
            let key ← Instr.keyThatStays (((ms[i]?).map (·.key)).getD vk) vk
            setObj g (.map (ms.modify i fun e => { e with key, val := vv }) ms.size))
          | none => setObj g (.map (ms.push { key := vk, val := vv, born := ms.size }) (ms.size + 1))) : Sem Unit).run P w = .ok () w1) → (Instr.mapUpdate t (.map (some g)) vk vv).run P w = .ok () w1 := by
        intro q w1 hq hz
        unfold Instr.mapUpdate
        rw [Sem.run_bind, kindOf_run hT h1]
        simp only [Result.andThen_ok, Sem.run_bind, MapKept.run_getObj_map hh, checkKey_ok hT hok hk, hq]
        exact hz trivial
      split at h
      · rename_i i v0 hf
        injection h with h
        subst h
        obtain ⟨q, h3, h4⟩ := findKey_ok hT hok hk hr hf
        cases q with
        | none => exact h3.elim
        | some q =>
          obtain ⟨q1, q2⟩ := q
          obtain ⟨rfl, _, _, m0, hm0, _, hkey, hbits⟩ := h3
          simp only [Nat.sub_zero, Array.getElem?_toList] at hm0
          obtain ⟨c1, c2, c3⟩ := set_map (x := .tup [k, v]) (m' := ⟨vk, vv, m0.born⟩) hm0 (fun e => { e with key := vk, val := vv }) rfl hborn rfl hr (ent_rel hk hv _)
          obtain ⟨s1, s2⟩ := hI.putMap ha hg hh c2 c3
          refine ⟨_, goal _ _ h4 fun _ => ?_, s1, s2⟩
          simp only [hm0, Option.map_some, Option.getD_some, hkey, Instr.keyThatStays, hbits, if_true, Sem.run_bind, Sem.run_pure, Result.andThen_ok]
          rw [MapKept.run_setObj_map _ hh, c1]
          rfl
      · rename_i hf
        injection h with h
        subst h
        obtain ⟨q, h3, h4⟩ := findKey_ok hT hok hk hr hf
        cases q with
        | some q => exact h3.elim
        | none =>
          obtain ⟨c1, c2, c3⟩ := add_map (x := .tup [k, v]) (m := ⟨vk, vv, ms.size⟩) rfl hborn hr (ent_rel hk hv _)
          obtain ⟨s1, s2⟩ := hI.putMap ha hg hh c2 c3
          refine ⟨_, goal _ _ h4 fun _ => ?_, s1, s2⟩
          simp only
          rw [MapKept.run_setObj_map _ hh, c1]
          rfl
      · cases h
    · cases h
  · cases h
theorem mapEntry_ok (hI : Inv Im φ s B w) {t : Nat} {m k z : AV} {vm vk : Value} {s' : St} (h : mapEntryAV T s t m k = some (z, s')) (hm : rel Im φ s B w m vm) (hk : rel Im φ s B w k vk) :
    ∃ u w', (Instr.mapEntry t vm vk).run P w = .ok u w' ∧ Step B φ s w φ s' w' ∧ Inv Im φ s' B w' ∧ rel Im φ s' B w' z u := by
  unfold mapEntryAV at h
  split at h
  · rename_i kt et n e xs hmap
    obtain ⟨h1, ha, _, g, ms, rfl, hg, hh, hborn, hr⟩ := mapAV_spec hT hmap hI hm
    split at h
    · rename_i hok
      have goal : ∀ q u w1, (∀ w', (Instr.findKey kt vk ms.toList).run P w' = .ok q w') → (∀ (_ : True), ((match q with
          | some (i, v) => (do
            let key ← Instr.keyThatStays (((ms[i]?).map (·.key)).getD vk) vk
            setObj g (.map (ms.modify i fun e => { e with key }) ms.size)
            pure (.tuple #[v, goInt (((ms[i]?).map (·.born)).getD 0)]))
          | none => (do
            let zero ← zeroValue et
            setObj g (.map (ms.push { key := vk, val := zero, born := ms.size }) (ms.size + 1))
            pure (.tuple #[zero, goInt ms.size]))) : Sem Value).run P w = .ok u w1) → (Instr.mapEntry t (.map (some g)) vk).run P w = .ok u w1 := by
        intro q u w1 hq hz
        unfold Instr.mapEntry
        rw [Sem.run_bind, kindOf_run hT h1]
        simp only [Result.andThen_ok, Sem.run_bind, MapKept.run_getObj_map hh, checkKey_ok hT hok hk, hq]
        exact hz trivial
      split at h
      · rename_i i v0 hf
        simp only [Option.some.injEq, Prod.mk.injEq] at h
        obtain ⟨rfl, rfl⟩ := h
        obtain ⟨q, h3, h4⟩ := findKey_ok hT hok hk hr hf
        cases q with
        | none => exact h3.elim
        | some q =>
          obtain ⟨q1, q2⟩ := q
          obtain ⟨rfl, _, hv, m0, hm0, rfl, hkey, hbits⟩ := h3
          simp only [Nat.sub_zero, Array.getElem?_toList] at hm0
          obtain ⟨c1, c2, c3⟩ := set_map (x := .tup [k, v0]) (m' := ⟨vk, m0.val, m0.born⟩) hm0 (fun e => { e with key := vk }) rfl hborn rfl hr (ent_rel hk hv _)
          obtain ⟨s1, s2⟩ := hI.putMap ha hg hh c2 c3
          refine ⟨.tuple #[m0.val, goInt m0.born], _, goal _ _ _ h4 fun _ => ?_, s1, s2, ?_⟩
          · simp only [hm0, Option.map_some, Option.getD_some, hkey, Instr.keyThatStays, hbits, if_true, Sem.run_bind, Sem.run_pure, Result.andThen_ok]
            rw [MapKept.run_setObj_map _ hh, c1]
            rfl
          · simp only [rel]
            refine ⟨[m0.val, goInt m0.born], rfl, ?_⟩
            simp only [relL]
            exact ⟨_, _, rfl, rel_step s1 _ _ hv, _, _, rfl, by simp [rel, goInt, hborn _ _ hm0], rfl⟩
      · rename_i zz hf hzz
        simp only [Option.some.injEq, Prod.mk.injEq] at h
        obtain ⟨rfl, rfl⟩ := h
        obtain ⟨q, h3, h4⟩ := findKey_ok hT hok hk hr hf
        cases q with
        | some q => exact h3.elim
        | none =>
          obtain ⟨zv, hz1, hz2⟩ := zeroAV_ok hT (Im := Im) (φ := φ) (s := s) (B := B) (w := w) hzz
          obtain ⟨c1, c2, c3⟩ := add_map (x := .tup [k, zz]) (m := ⟨vk, zv, ms.size⟩) rfl hborn hr (ent_rel hk hz2 _)
          obtain ⟨s1, s2⟩ := hI.putMap ha hg hh c2 c3
          have hl : xs.length = ms.size := by have := relL_len _ _ hr; simpa using this.symm
          refine ⟨.tuple #[zv, goInt ms.size], _, goal _ _ _ h4 fun _ => ?_, s1, s2, ?_⟩
          · simp only [Sem.run_bind, hz1, Result.andThen_ok]
            rw [MapKept.run_setObj_map _ hh, c1]
            rfl
          · simp only [rel]
            refine ⟨[zv, goInt ms.size], rfl, ?_⟩
            simp only [relL]
            exact ⟨_, _, rfl, rel_step s1 _ _ hz2, _, _, rfl, by simp [rel, goInt, hl], rfl⟩
      · cases h
    · cases h
  · cases h
theorem entryStore_ok (hI : Inv Im φ s B w) {t : Nat} {m i v : AV} {vm vi vv : Value} {s' : St} (h : entryStoreAV T s t m i v = some s') (hm : rel Im φ s B w m vm) (hi : rel Im φ s B w i vi) (hv : rel Im φ s B w v vv) :
    ∃ w', (Instr.entryStore t vm vi vv).run P w = .ok () w' ∧ Step B φ s w φ s' w' ∧ Inv Im φ s' B w' := by
  unfold entryStoreAV at h
  split at h
  · rename_i kt et n e xs kk j hmap
    obtain ⟨h1, ha, _, g, ms, rfl, hg, hh, hborn, hr⟩ := mapAV_spec hT hmap hI hm
    split at h
    · rename_i h0
      split at h
      · rename_i k hka
        injection h with h
        subst h
        obtain ⟨j, rfl⟩ : ∃ n : Nat, j = n := ⟨j.toNat, by omega⟩
        simp only [Int.toNat_natCast] at hka ⊢
        unfold keyAt at hka
        split at hka
        · rename_i k' v' hx
          injection hka with hka
          subst hka
          obtain ⟨u, hu, hrel⟩ := relL_get _ _ hr _ _ hx
          rw [List.getElem?_map, Array.getElem?_toList] at hu
          obtain ⟨m0, hm0, rfl⟩ := Option.map_eq_some_iff.1 hu
          simp only [rel, entV] at hrel
          obtain ⟨cs, hcs, hkv⟩ := hrel
          simp only [Value.tuple.injEq] at hcs
          have hcs : cs = [m0.key, m0.val] := by have := congrArg Array.toList hcs; simpa using this.symm
          subst hcs
          simp only [relL] at hkv
          obtain ⟨_, _, e1, hk', _⟩ := hkv
          simp only [List.cons.injEq] at e1
          obtain ⟨rfl, _⟩ := e1
          obtain ⟨c1, c2, c3⟩ := set_map (x := .tup [k', v]) (m' := ⟨m0.key, vv, m0.born⟩) hm0 (fun e => { e with val := vv }) rfl hborn rfl hr (ent_rel hk' hv _)
          obtain ⟨s1, s2⟩ := hI.putMap ha hg hh c2 c3
          refine ⟨_, ?_, s1, s2⟩
          simp only [rel] at hi
          subst hi
          have hfi : ms.findIdx? (fun e => (e.born : Int) == (j : Int)) = some j := by
            rw [Array.findIdx?_eq_some_iff_getElem]
            have hlt : j < ms.size := (Array.getElem?_eq_some_iff.1 hm0).1
            refine ⟨hlt, ?_, fun q hq => ?_⟩
            · have := hborn j ms[j] (by simp [hlt])
              simp [this]
            · have := hborn q ms[q] (by simp)
              simp [this]
              omega
          unfold Instr.entryStore
          simp only [Sem.run_bind, Sem.run_pure, Result.andThen_ok, MapKept.run_getObj_map hh, asInt, asIntOf]
          rw [hfi]
          simp only
          rw [MapKept.run_setObj_map _ hh, c1]
          rfl
        · cases hka
      · cases h
    · cases h
  · cases h
end
end Go.Proofs.YtmcfgljdpjalfaaV
