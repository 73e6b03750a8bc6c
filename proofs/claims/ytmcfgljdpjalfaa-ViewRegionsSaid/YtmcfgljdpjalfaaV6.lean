/- The abstract layer, sixth text: operations that make memory: boxes, rows, append. -/
import Derived.Test.YtmcfgljdpjalfaaV5
import Derived.Laws.MakeOwn
set_option linter.unusedVariables false
set_option linter.unusedSimpArgs false
set_option linter.constructorNameAsVariable false
set_option linter.unusedSectionVars false
namespace Go.Proofs.YtmcfgljdpjalfaaV
open Go.RowKit

def zeroElem? (d : TD) : Option AV := if d.agg = true then some (.agg (d.zero.map cst)) else match d.zero with | [u] => some (cst u) | _ => none
def fillE (s : St) (sz : Nat) (xs : List AV) : List (Nat × AV) → Option (List AV)
  | [] => some xs
  | (i, x) :: rest => match okCells s x with
    | some ys => if ys.length = sz ∧ i < xs.length then fillE s sz (xs.set i x) rest else none
    | none => none
def buildSliceAV (T : Tab) (s : St) (t len : Nat) (parts : List (Nat × AV)) : Option (AV × St) :=
  match elemOf? T t with
  | some (e, d) => match zeroElem? d with
    | some z => if len * d.size ≤ 16777216 ∧ 0 < d.size then
        (match fillE s d.size (List.replicate len z) parts with
        | some xs => some (.so s.row.length 0 len, s.new none (e, d.size, xs))
        | none => none) else none
    | none => none
  | none => none
def makeSliceAV (T : Tab) (s : St) (t : Nat) (l c : AV) : Option (AV × St) :=
  match elemOf? T t, l, c with
  | some (e, d), .int _ l, .int _ c => match zeroElem? d with
    | some z => if 0 ≤ l ∧ l ≤ c ∧ (d.bytes : Int) * c ≤ 281474976710656 ∧ c ≤ 9223372036854775807 ∧ 0 < d.size then some (.so s.row.length 0 l.toNat, s.new none (e, d.size, List.replicate l.toNat z)) else none
    | none => none
  | _, _, _ => none
/-- A slice's elements. -/
def listAV (s : St) : AV → Option (Nat × List AV)
  | .sl _ sz _ xs => some (sz, xs)
  | .so n off len => match s.at n with
    | some (_, sz, xs) => some (sz, (xs.drop off).take len)
    | none => none
  | _ => none
/-- What append grows: a row, and the elements that stand. -/
def appRow (s : St) (e sz : Nat) (x : AV) : Option (Option Nat × List AV) :=
  match x with
  | .so n 0 len => match s.at n with
    | some (e', sz', xs) => if e' = e ∧ sz' = sz then some (some n, xs.take len) else none
    | none => none
  | .sl _ _ .nil _ => some (none, [])
  | _ => none
def appendAV (T : Tab) (s : St) (t : Nat) (x y : AV) : Option (AV × St) :=
  match elemOf? T t, listAV s y with
  | some (e, d), some (sz, ys) => match appRow s e d.size x with
    | some (K, xs) => if (sz = d.size ∨ ys = []) ∧ 0 < d.size ∧ (xs.length + ys.length) * d.bytes ≤ 140737488355328 ∧ xs.length + ys.length ≤ 140737488355328 then some (.so s.row.length 0 (xs.length + ys.length), s.new K (e, d.size, xs ++ ys)) else none
    | none => none
  | _, _ => none
def allocAV (T : Tab) (s : St) (t : Nat) : Option (AV × St) :=
  match T t with
  | some d => some (.ptr s.box.length 0, ⟨s.box ++ [(t, d.zero.map cst)], s.row⟩)
  | none => none
def boxAV (s : St) (t : Nat) (x : AV) : Option (AV × St) :=
  match okCells s x with
  | some ys => some (.ptr s.box.length 0, ⟨s.box ++ [(t, ys)], s.row⟩)
  | none => none
def evE (T : Tab) (F : Fr) (s : St) : Op → Option (AV × St)
  | .alloc t => allocAV T s t
  | .box t x => boxAV s t (look F x)
  | .buildSlice t len parts => buildSliceAV T s t len (parts.toList.map fun p => (p.1, look F p.2))
  | .makeSlice t l c => makeSliceAV T s t (look F l) (look F c)
  | .call c => match c.callee, c.args.toList, c.argTypes.toList with
    | .builtin .append, [x, y], [t, t'] => if t = t' then appendAV T s t (look F x) (look F y) else none
    | _, _, _ => none
  | _ => none
/-- It lays new blocks and leaves what was. -/
def isNew : Op → Bool
  | .alloc _ | .box .. | .buildSlice .. | .makeSlice .. => true
  | _ => false

theorem run_newRow' {P : Program} (e : Nat) (cs : Array Value) (w : World) : (newRow e cs).run P w = .ok ⟨w.heap.size, 0, none⟩ (w.alloc (.cells cs e)) := rfl

theorem fold_set (v : Array Value) (off : Nat) (cs : List Value) (h : off + v.size ≤ cs.length) :
    (v.zipIdx.foldl (fun cs (c, j) => cs.setIfInBounds (off + j) c) cs.toArray) = (cs.take off ++ v.toList ++ cs.drop (off + v.size)).toArray := by
  apply Array.ext_getElem?
  intro k
  have key : ∀ (l : List Value) (n : Nat) (A : Array Value), (∀ k, ((l.zipIdx n).foldl (fun cs (c, j) => cs.setIfInBounds (off + j) c) A)[k]? = if off + n ≤ k ∧ k < off + n + l.length ∧ k < A.size then l[k - (off + n)]? else A[k]?) := by
    intro l
    induction l with
    | nil => intro n A k; simp; omega
    | cons y l ih =>
      intro n A k
      simp only [List.zipIdx_cons, List.foldl_cons]
      rw [ih]
      simp only [Array.size_setIfInBounds, List.length_cons, Array.getElem?_setIfInBounds]
      by_cases e : off + n = k
      · subst e
        by_cases hs : off + n < A.size
        · rw [if_neg (by omega), if_pos rfl, if_pos hs, if_pos (by omega)]
          simp
        · rw [if_neg (by omega), if_pos rfl, if_neg hs, if_neg (by omega)]
          simp at hs
          simp [Array.getElem?_eq_none hs]
      · rw [if_neg e]
        by_cases hs : off + n ≤ k ∧ k < off + n + (l.length + 1) ∧ k < A.size
        · rw [if_pos (by omega), if_pos hs]
          have : k - (off + n) = (k - (off + (n + 1))) + 1 := by omega
          rw [this]
          rfl
        · rw [if_neg (by omega), if_neg hs]
  rw [← Array.foldl_toList]
  have := key v.toList 0 cs.toArray k
  simp only [Array.toList_zipIdx]
  rw [this]
  simp only [List.size_toArray, Nat.add_zero, List.getElem?_toArray, Array.length_toList]
  rw [List.append_assoc, List.getElem?_append, List.length_take, Nat.min_eq_left (by omega)]
  by_cases hk : k < off
  · rw [if_neg (by omega), if_pos hk, List.getElem?_take, if_pos hk]
  · rw [if_neg hk, List.getElem?_append]
    by_cases hk2 : k - off < v.toList.length
    · rw [Array.length_toList] at hk2
      rw [if_pos (by omega), if_pos (by simpa using hk2)]
    · rw [Array.length_toList] at hk2
      rw [if_neg (by omega), if_neg (by simpa using hk2), List.getElem?_drop, Array.length_toList]
      congr 1
      omega

section
variable {P : Program} {T : Tab} (hT : TabOk P T) {Im : Nat → Prop} {φ : Emb} {s : St} {B : Nat} {w : World}

theorem relF_set {sz : Nat} : ∀ (xs : List AV) (cs : List Value), relF Im φ s B w sz xs cs → ∀ (i : Nat) (x : AV) (v : Value), i < xs.length → v.cells.size = sz → (∀ u ∈ v.cells.toList, u.oneCell' = true) → rel Im φ s B w x v →
    relF Im φ s B w sz (xs.set i x) (cs.take (i * sz) ++ v.cells.toList ++ cs.drop (i * sz + sz))
  | [], cs, h, i, x, v, hi, _, _, _ => by simp at hi
  | y :: xs, cs, h, i, x, v, hi, h1, h2, h3 => by
    simp only [relF] at h
    obtain ⟨u, r, rfl, g1, g2, g3, g4⟩ := h
    have hl : u.cells.toList.length = sz := by simpa using g1
    cases i with
    | zero =>
      simp only [List.set_cons_zero, relF]
      refine ⟨v, r, ?_, h1, h2, h3, g4⟩
      simp [hl]
    | succ i =>
      simp only [List.set_cons_succ, relF]
      have ih := relF_set xs r g4 i x v (by simpa using hi) h1 h2 h3
      refine ⟨u, _, ?_, g1, g2, g3, ih⟩
      rw [List.take_append, List.take_of_length_le (by rw [hl, Nat.add_mul]; omega), List.drop_append, List.drop_of_length_le (by rw [hl, Nat.add_mul]; omega), hl]
      have e1 : (i + 1) * sz - sz = i * sz := by rw [Nat.add_mul]; omega
      have e2 : (i + 1) * sz + sz - sz = i * sz + sz := by rw [Nat.add_mul]; omega
      rw [e1, e2]
      simp [List.append_assoc]

theorem fillE_ok (sz : Nat) : ∀ (parts : List (Nat × AV)) (vs : List (Nat × Value)) (xs : List AV) (cs : List Value) (zs : List AV),
    (∀ (i : Nat) (p : Nat × AV), parts[i]? = some p → ∃ v, vs[i]? = some (p.1, v) ∧ rel Im φ s B w p.2 v) → vs.length = parts.length → relF Im φ s B w sz xs cs → fillE s sz xs parts = some zs →
    ∃ ds : List Value, Instr.fill (fun i => some (i * sz, sz)) cs.toArray vs = some ds.toArray ∧ relF Im φ s B w sz zs ds ∧ zs.length = xs.length
  | [], vs, xs, cs, zs, hp, hl, hr, h => by
    simp only [fillE, Option.some.injEq] at h
    subst h
    have : vs = [] := List.eq_nil_of_length_eq_zero (by simpa using hl)
    subst this
    exact ⟨cs, rfl, hr, rfl⟩
  | (i, x) :: rest, vs, xs, cs, zs, hp, hl, hr, h => by
    simp only [fillE] at h
    split at h
    · rename_i ys hok
      split at h
      · rename_i hc
        obtain ⟨hc1, hc2⟩ := hc
        obtain ⟨v, hv, hrv⟩ := hp 0 _ rfl
        cases vs with
        | nil => simp at hl
        | cons q vs =>
          simp only [List.getElem?_cons_zero, Option.some.injEq] at hv
          subst hv
          obtain ⟨hrl, hro⟩ := okCells_ok hok hrv
          have hsz : v.cells.size = sz := by have := relL_len _ _ hrl; simp at this; omega
          have hlc := relF_len _ _ hr
          have hfit : i * sz + sz ≤ cs.length := by rw [hlc, ← Nat.succ_mul]; exact Nat.mul_le_mul_right _ hc2
          obtain ⟨ds, k1, k2, k3⟩ := fillE_ok sz rest vs (xs.set i x) (cs.take (i * sz) ++ v.cells.toList ++ cs.drop (i * sz + sz)) zs (fun i p hip => hp (i + 1) p hip) (by simpa using hl)
            (relF_set xs cs hr i x v hc2 hsz hro hrv) h
          refine ⟨ds, ?_, k2, by simpa using k3⟩
          unfold Instr.fill
          simp only
          rw [if_neg (by rw [hsz]; simp; omega), fold_set _ _ _ (by rw [hsz]; exact hfit), hsz]
          exact k1
      · cases h
    · cases h

theorem zeroElem_ok {d : TD} {z : AV} (h : zeroElem? d = some z) (h1 : ∀ u ∈ d.zero, u.oneCell' = true) : ∃ v : Value, v.cells.toList = d.zero ∧ rel Im φ s B w z v := by
  unfold zeroElem? at h
  split at h
  · injection h with h
    subst h
    refine ⟨.agg d.zero.toArray, by simp [Value.cells], ?_⟩
    simp only [rel]
    refine ⟨d.zero, rfl, ?_, h1⟩
    clear h1
    induction d.zero with
    | nil => simp [relL]
    | cons u l ih => simp only [List.map_cons, relL]; exact ⟨u, l, rfl, rel_cst .., ih⟩
  · split at h
    · rename_i u hu
      injection h with h
      subst h
      refine ⟨u, ?_, rel_cst ..⟩
      have := h1 u (by rw [hu]; simp)
      rw [hu]
      cases u <;> simp [Value.oneCell'] at this <;> simp [Value.cells]
    · cases h

theorem made_cells (z : Array Value) (n : Nat) : ((Array.range (n * z.size)).map (z[· % z.size]!)).toList = (List.replicate n z.toList).flatten := by
  induction n with
  | zero => simp
  | succ n ih =>
    rw [List.replicate_succ', List.flatten_append]
    simp only [List.flatten_singleton]
    rw [← ih]
    apply List.ext_getElem?
    intro k
    simp only [Array.toList_map, Array.toList_range, List.getElem?_map, List.getElem?_append, List.length_map, List.length_range]
    by_cases hk : k < n * z.size
    · rw [if_pos hk, List.getElem?_range (by rw [Nat.add_mul]; omega), List.getElem?_range hk]
    · rw [if_neg hk]
      by_cases hk2 : k < (n + 1) * z.size
      · rw [List.getElem?_range hk2]
        have hz : k - n * z.size < z.size := by rw [Nat.add_mul] at hk2; omega
        have hm : k % z.size = k - n * z.size := by
          have : k = (k - n * z.size) + n * z.size := by omega
          rw [this, Nat.add_mul_mod_self_right, Nat.mod_eq_of_lt hz]
          omega
        simp only [Option.map_some, hm]
        rw [getElem!_pos z _ hz]
        simp [hz]
      · rw [List.getElem?_eq_none (by simp; omega)]
        simp only [Option.map_none]
        rw [List.getElem?_eq_none (by simp; rw [Nat.add_mul] at hk2; omega)]

theorem relF_replicate {sz : Nat} {z : AV} {v : Value} (hr : rel Im φ s B w z v) (hs : v.cells.size = sz) (h1 : ∀ u ∈ v.cells.toList, u.oneCell' = true) : ∀ n, relF Im φ s B w sz (List.replicate n z) (List.replicate n v.cells.toList).flatten
  | 0 => by simp [relF]
  | n + 1 => by
    simp only [List.replicate_succ, List.flatten_cons, relF]
    exact ⟨v, _, rfl, hs, h1, hr, relF_replicate hr hs h1 n⟩
include hT

theorem zero_all {t : Nat} {d : TD} (h : T t = some d) : ∃ z : Value, (∀ w', (zeroValue t).run P w' = .ok z w') ∧ z.cells = d.zero.toArray := by
  obtain ⟨_, i, z, e1, _, _, e2, e3, e4, _⟩ := hT t d h
  exact ⟨z, fun w' => by simp [zeroValue, typeInfo, program, Sem.run, bind, Sem.bind, e1, e2, pure], by rw [← e3]⟩

omit hT in
theorem so_new {φ' : Emb} {K : Option Nat} {e sz len : Nat} {xs : List AV} {w' : World} {v : Value} (_ : Inv Im φ' (s.new K (e, sz, xs)) B w') (hl : len = xs.length) (h : SoAt φ' w' s.row.length e sz 0 len v) : rel Im φ' (s.new K (e, sz, xs)) B w' (.so s.row.length 0 len) v := by
  simp only [rel]
  refine ⟨by simp [St.new, kill_len], fun e' sz' xs' ha => ?_⟩
  rw [at_new, if_pos rfl] at ha
  simp only [Option.some.injEq, Prod.mk.injEq] at ha
  obtain ⟨rfl, rfl, rfl⟩ := ha
  exact ⟨by omega, h⟩

theorem buildSlice_ok (hI : Inv Im φ s B w) {F : Fr} {a : Act} (hF : Holds Im φ s B w F a) {t len : Nat} {parts : Array (Nat × Operand)} {x : AV} {s' : St} (h : buildSliceAV T s t len (parts.toList.map fun p => (p.1, look F p.2)) = some (x, s')) :
    ∃ φ' v w', (Instr.buildSlice t len (parts.map fun (i, x) => (i, a.eval x))).run P w = .ok v w' ∧ Step B φ s w φ' s' w' ∧ Inv Im φ' s' B w' ∧ rel Im φ' s' B w' x v ∧ Below w.heap.size w w' := by
  unfold buildSliceAV at h
  split at h
  · rename_i e d he
    obtain ⟨hk, hd⟩ := elemOf?_spec he
    obtain ⟨_, _, _, _, _, _, _, _, hzl, hz1, _⟩ := hT e d hd
    split at h
    · rename_i z hz
      split at h
      · rename_i hcap
        obtain ⟨hcap, hpos⟩ := hcap
        split at h
        · rename_i xs hxs
          simp only [Option.some.injEq, Prod.mk.injEq] at h
          obtain ⟨rfl, rfl⟩ := h
          obtain ⟨vz, hvz, hrz⟩ := zeroElem_ok (Im := Im) (φ := φ) (s := s) (B := B) (w := w) hz hz1
          obtain ⟨zv, hzv, hzc⟩ := zero_all hT hd
          have hsz : vz.cells.size = d.size := by rw [← hzl, ← hvz]; simp
          have hrep := relF_replicate hrz hsz (by rw [hvz]; exact hz1) len
          obtain ⟨ds, k1, k2, k3⟩ := fillE_ok d.size _ (parts.toList.map fun p => (p.1, a.eval p.2)) _ _ xs
            (by
              intro i p hp
              rw [List.getElem?_map] at hp
              obtain ⟨q, hq, rfl⟩ := Option.map_eq_some_iff.1 hp
              refine ⟨a.eval q.2, ?_, look_ok hF q.2⟩
              rw [List.getElem?_map, hq]
              rfl) (by simp) hrep hxs
          have hxl : xs.length = len := by simpa using k3
          have hdl : ds.length = len * d.size := by rw [relF_len _ _ k2, hxl]
          have hrun : (Instr.buildSlice t len (parts.map fun (i, x) => (i, a.eval x))).run P w = .ok (.slice (some ⟨w.heap.size, 0, none⟩) len len) (w.alloc (.cells ds.toArray e)) := by
            unfold Instr.buildSlice
            rw [Sem.run_bind, kindOf_run hT hk]
            simp only [Result.andThen_ok]
            rw [Sem.run_bind, run_size hT hd]
            simp only [Result.andThen_ok]
            rw [if_neg (by omega)]
            have hcells : ∀ zc : Array Value, (len * d.size = 0 ∨ zc = d.zero.toArray) → ((Array.range (len * d.size)).map (zc[· % zc.size]!)) = (List.replicate len vz.cells.toList).flatten.toArray := by
              intro zc hzc'
              rcases Nat.eq_zero_or_pos (len * d.size) with h0 | h0
              · have e1 : (List.replicate len vz.cells.toList).flatten = [] := by
                  apply List.eq_nil_of_length_eq_zero
                  rw [relF_len _ _ hrep]
                  simpa using h0
                rw [h0, e1]
                simp
              · have e1 : zc = d.zero.toArray := by
                  rcases hzc' with h | h
                  · omega
                  · exact h
                subst e1
                have := made_cells d.zero.toArray len
                rw [hvz]
                apply Array.ext'
                simp only [List.size_toArray] at this
                rw [← hzl]
                simpa using this
            by_cases h0 : len * d.size = 0
            · rw [if_pos h0]
              simp only [Sem.run_bind, Sem.run_pure, Result.andThen_ok, Array.toList_map]
              rw [hcells _ (.inl h0), k1]
              simp only [Sem.run_bind, run_newRow', Result.andThen_ok, Sem.run_pure]
            · rw [if_neg h0]
              simp only [Sem.run_bind, Sem.run_pure, Result.andThen_ok, hzv, Array.toList_map]
              rw [hcells _ (.inr hzc), k1]
              simp only [Sem.run_bind, run_newRow', Result.andThen_ok, Sem.run_pure]
          have hg : w.grownBy (w.alloc (.cells ds.toArray e)) none := World.grownBy_alloc w _ none
          have hmax : len ≤ maxLen := by simp only [maxLen]; have := Nat.le_mul_of_pos_right len hpos; omega
          have hrow : RowOk Im φ s B w (w.alloc (.cells ds.toArray e)) (some w.heap.size) e d.size xs :=
            .inl ⟨hpos, .inr ⟨w.heap.size, len, ds.toArray, ds, rfl, heap_alloc_new w _, by simpa using hdl, hmax, by omega, k2, by rw [hxl, ← hdl]; simp⟩⟩
          obtain ⟨hs1, hs2⟩ := hI.row none none (.inl rfl) hg (Nat.le_refl _) (some w.heap.size) (fun g hg' => by
            injection hg' with hg'
            subst hg'
            exact ⟨by simp, .inr (Nat.le_refl _)⟩) hrow
          refine ⟨_, _, _, hrun, hs1, hs2, so_new hs2 hxl.symm ⟨hpos, ?_⟩, (Below.refl _ _).alloc (Nat.le_refl _) _⟩
          refine .inr ⟨w.heap.size, len, 0, by simp, ⟨w.heap.size, ds.toArray, by simp, heap_alloc_new w _, by simpa using hdl, by simpa using hmax⟩, Nat.le_refl _, rfl, by simp, fun _ => rfl⟩
        · cases h
      · cases h
    · cases h
  · cases h

theorem makeSlice_ok (hI : Inv Im φ s B w) {t : Nat} {l c x : AV} {vl vc : Value} {s' : St} (h : makeSliceAV T s t l c = some (x, s')) (hl : rel Im φ s B w l vl) (hc : rel Im φ s B w c vc) :
    ∃ φ' v w', (Instr.makeSlice t vl vc).run P w = .ok v w' ∧ Step B φ s w φ' s' w' ∧ Inv Im φ' s' B w' ∧ rel Im φ' s' B w' x v ∧ Below w.heap.size w w' := by
  unfold makeSliceAV at h
  split at h
  · rename_i e d kl l' kc c' he
    obtain ⟨hk, hd⟩ := elemOf?_spec he
    obtain ⟨hu, _⟩ := kindOf_und hT hk
    obtain ⟨_, i, zv, hi, hi1, hi2, hi3, hi4, hzl, hz1, _⟩ := hT e d hd
    split at h
    · rename_i z hz
      split at h
      · rename_i hc4
        obtain ⟨c1, c2, c3, c4, hpos⟩ := hc4
        simp only [Option.some.injEq, Prod.mk.injEq] at h
        obtain ⟨rfl, rfl⟩ := h
        simp only [rel] at hl hc
        subst hl hc
        obtain ⟨vz, hvz, hrz⟩ := zeroElem_ok (Im := Im) (φ := φ) (s := s) (B := B) (w := w) hz hz1
        have hsz : vz.cells.size = d.size := by rw [← hzl, ← hvz]; simp
        have hrep := relF_replicate hrz hsz (by rw [hvz]; exact hz1)
        have hrun := run_make (P := P) w t e i zv hu hi hi3 kl kc l' c' c1 c2 (by rw [hi2]; exact c3) c4
        rw [hi1] at hrun
        have hzc : zv.cells = d.zero.toArray := by rw [← hi4]
        have hmade : (madeCells zv.cells (c'.toNat * d.size)).toList = (List.replicate c'.toNat vz.cells.toList).flatten := by
          have := made_cells d.zero.toArray c'.toNat
          rw [hzc, hvz, ← hzl]
          simpa [madeCells] using this
        have hg : w.grownBy (w.alloc (.cells (madeCells zv.cells (c'.toNat * d.size)) e)) none := World.grownBy_alloc w _ none
        have hmax : c'.toNat ≤ maxLen := by simp only [maxLen]; omega
        have hfl : (List.replicate l'.toNat vz.cells.toList).flatten.length = l'.toNat * d.size := by
          have := relF_len _ _ (hrep l'.toNat)
          simpa using this
        have hrow : RowOk Im φ s B w (w.alloc (.cells (madeCells zv.cells (c'.toNat * d.size)) e)) (some w.heap.size) e d.size (List.replicate l'.toNat z) := by
          refine .inl ⟨hpos, .inr ⟨w.heap.size, c'.toNat, _, _, rfl, heap_alloc_new w _, size_madeCells _ _, hmax, by simp; omega, hrep l'.toNat, ?_⟩⟩
          rw [hmade, List.length_replicate]
          have hsplit : (List.replicate c'.toNat vz.cells.toList).flatten = (List.replicate l'.toNat vz.cells.toList).flatten ++ (List.replicate (c'.toNat - l'.toNat) vz.cells.toList).flatten := by
            rw [← List.flatten_append, List.replicate_append_replicate]
            congr 2
            omega
          rw [hsplit, ← hfl]
          exact List.take_left
        obtain ⟨hs1, hs2⟩ := hI.row none none (.inl rfl) hg (Nat.le_refl _) (some w.heap.size) (fun g hg' => by
          injection hg' with hg'
          subst hg'
          exact ⟨by simp, .inr (Nat.le_refl _)⟩) hrow
        refine ⟨_, _, _, hrun, hs1, hs2, so_new hs2 (by simp) ⟨hpos, ?_⟩, (Below.refl _ _).alloc (Nat.le_refl _) _⟩
        refine .inr ⟨w.heap.size, c'.toNat, 0, by simp, ⟨w.heap.size, _, by simp, heap_alloc_new w _, by rw [size_madeCells, Nat.zero_add], by simpa using hmax⟩, by omega, rfl, by simp, fun _ => rfl⟩
      · cases h
    · cases h
  · cases h

omit hT in
theorem listAV_ok (hI : Inv Im φ s B w) {y : AV} {vy : Value} {sz : Nat} {ys : List AV} (h : listAV s y = some (sz, ys)) (hy : rel Im φ s B w y vy) :
    ∃ cy A c, relF Im φ s B w sz ys cy ∧ vy = .slice A ys.length c ∧ ys.length ≤ c ∧ (0 < ys.length → ∃ a, A = some a ∧ a.block < w.heap.size ∧ CellsAt w a cy) := by
  unfold listAV at h
  split at h
  · simp only [Option.some.injEq, Prod.mk.injEq] at h
    obtain ⟨rfl, rfl⟩ := h
    simp only [rel] at hy
    obtain ⟨cs, hF, hm⟩ := hy
    obtain ⟨A, c, rfl, hc⟩ := hm.slice
    exact ⟨cs, A, c, hF, rfl, hc, fun h0 => hm.at_ h0⟩
  · rename_i n off len
    split at h
    · rename_i e sz' xs ha
      simp only [Option.some.injEq, Prod.mk.injEq] at h
      obtain ⟨rfl, rfl⟩ := h
      simp only [rel] at hy
      obtain ⟨hl, hv⟩ := hy.2 _ _ _ ha
      have hlen : ((xs.drop off).take len).length = len := by simp; omega
      rcases hv.2 with ⟨h1, rfl, rfl, rfl⟩ | ⟨g, cap, p, h1, h2, h3, rfl, h5, h6⟩
      · exact ⟨[], none, 0, by simp [relF], by simp, by simp, by simp⟩
      · obtain ⟨cs, hF, hc, hlt⟩ := hI.rowCells ha hv.1 h1
        refine ⟨_, _, _, relF_take len _ _ (relF_drop off _ _ hF), by rw [hlen], by omega, fun h0 => ⟨_, rfl, hlt, fun j u hj => ?_⟩⟩
        rw [List.getElem?_take] at hj
        split at hj
        · rw [List.getElem?_drop] at hj
          have := hc _ u hj
          rw [Addr.add_lit', Nat.zero_add] at this
          rw [Addr.add_lit', h5 (by omega)]
          exact this
        · cases hj
    · cases h
  · cases h

theorem append_ok (hI : Inv Im φ s B w) {t ty : Nat} {x y z : AV} {vx vy : Value} {s' : St} (h : appendAV T s t x y = some (z, s')) (hx : rel Im φ s B w x vx) (hy : rel Im φ s B w y vy) :
    ∃ φ' v w', (Builtin.append_ #[t, t] ty #[vx, vy]).run P w = .ok v w' ∧ Step B φ s w φ' s' w' ∧ Inv Im φ' s' B w' ∧ rel Im φ' s' B w' z v := by
  unfold appendAV at h
  split at h
  · rename_i e d sz ys he hys
    obtain ⟨hk, hd⟩ := elemOf?_spec he
    obtain ⟨hu, _⟩ := kindOf_und hT hk
    obtain ⟨_, i, zv, hi, hi1, hi2, hi3, hi4, hzl, hz1, _⟩ := hT e d hd
    split at h
    · rename_i K xs hK
      split at h
      · rename_i hc
        obtain ⟨c2, c3, c4, c5⟩ := hc
        simp only [Option.some.injEq, Prod.mk.injEq] at h
        obtain ⟨rfl, rfl⟩ := h
        obtain ⟨cy, Ay, cc, hFy, rfl, _, hmy⟩ := listAV_ok hI hys hy
        have hFy' : relF Im φ s B w d.size ys cy := by
          rcases c2 with c2 | c2
          · rw [← c2]; exact hFy
          · subst c2; simp only [relF] at hFy ⊢; exact hFy
        have hly := relF_len _ _ hFy'
        have hzc : zv.cells.size = d.size := by rw [← hzl, ← hi4]; simp
        have hown : ∃ cx, relF Im φ s B w d.size xs cx ∧ w.ownsRow B e d.size vx xs.length cx ∧ (vx.ownBlock = none ∨ ∃ n, K = some n ∧ s.live n = true ∧ φ.rw n = vx.ownBlock) := by
          unfold appRow at hK
          split at hK
          · rename_i n len
            split at hK
            · rename_i e1 sz1 xs1 ha
              split at hK
              · rename_i hcc
                obtain ⟨k2, k3⟩ := hcc
                simp only [Option.some.injEq, Prod.mk.injEq] at hK
                obtain ⟨rfl, rfl⟩ := hK
                subst k2 k3
                simp only [rel] at hx
                obtain ⟨hl, hv⟩ := hx.2 _ _ _ ha
                have hlen : (xs1.take len).length = len := by simp; omega
                rw [hlen]
                rcases hv.2 with ⟨h1, _, rfl, rfl⟩ | ⟨g, cap, p, h1, h2, h3, rfl, h5, h6⟩
                · exact ⟨[], by simp [relF], World.ownsRow_nil _ _ _ _, .inl rfl⟩
                · obtain ⟨_, g1 | ⟨g', cap', cur, cs, g1, g2, g3, g4, g5, g6, g7⟩⟩ := (hI.rows _ _ _ _ ha).pos hv.1
                  · rw [g1.1] at h1; cases h1
                  · rw [g1] at h1
                    injection h1 with h1
                    subst h1
                    have hp := h6 rfl
                    subst hp
                    obtain ⟨g'', cur', j1, j2, j3, j4⟩ := h2
                    rw [g1] at j1
                    injection j1 with j1
                    subst j1
                    have hB := (hI.bnd _ (.inr ⟨n, at_live ha, g1⟩)).1
                    have hcur : cur' = cur := by rw [g2] at j2; injection j2 with j2; injection j2 with j2; exact j2.symm
                    subst hcur
                    rw [Nat.zero_add] at j3 j4
                    have hF := relF_take len _ _ g6
                    have hcl : (cs.take (len * d.size)).length = len * d.size := by have := relF_len _ _ hF; rw [this, hlen]
                    refine ⟨_, hF, ⟨hcl, .inr ⟨_, cap, cur', rfl, hB, g2, h3, j4, j3, ?_⟩⟩, .inr ⟨n, rfl, at_live ha, by rw [g1]; rfl⟩⟩
                    rw [← g7, List.take_take, Nat.min_eq_left (Nat.mul_le_mul_right _ (by omega))]
              · cases hK
            · cases hK
          · rename_i e1 sz1 xs1
            simp only [Option.some.injEq, Prod.mk.injEq] at hK
            obtain ⟨rfl, rfl⟩ := hK
            simp only [rel] at hx
            obtain ⟨cx, hFx, rfl, hn⟩ := hx
            exact ⟨[], by simp [relF], World.ownsRow_nil _ _ _ _, .inl rfl⟩
          · cases hK
        obtain ⟨cx, hFx, hox, hrow⟩ := hown
        have hrun : ∃ v1 w1, (Builtin.append_ #[t, t] ty #[vx, .slice Ay ys.length cc]).run P w = .ok v1 w1 ∧ w1.ownsRow B e d.size v1 (xs.length + ys.length) (cx ++ cy) ∧ w.grownBy w1 vx.ownBlock ∧
            (v1.ownBlock = vx.ownBlock ∨ v1.ownBlock = some w.heap.size) := by
          rcases Ay with _ | ad
          · have h0 : ys.length = 0 := by
              rcases Nat.eq_zero_or_pos ys.length with h0 | h0
              · exact h0
              · obtain ⟨a, ha, _⟩ := hmy h0
                cases ha
            have : cy = [] := by
              apply List.eq_nil_of_length_eq_zero
              rw [hly, h0, Nat.zero_mul]
            subst this
            rw [h0]
            refine ⟨vx, w, ?_, by simpa using hox, ⟨rfl, rfl, rfl, Nat.le_refl _, fun _ _ _ => rfl⟩, .inl rfl⟩
            rcases hox.2 with ⟨rfl, hn⟩ | ⟨g, cap, cur, rfl, _, _, hnc, _⟩
            · simp [Builtin.append_, run_underlying hu, sizeOf, typeInfo, hi, Builtin.lenOf, Builtin.firstCells]
            · simp [Builtin.append_, run_underlying hu, sizeOf, typeInfo, hi, Builtin.lenOf, Builtin.firstCells, hnc, storeCells]
          · have hcells : ∀ (j : Nat) (u : Value), cy[j]? = some u → w.cell? (ad.add j) = some u := by
              intro j u hj
              have hp : 0 < ys.length := by
                have := (List.getElem?_eq_some_iff.1 hj).1
                rcases Nat.eq_zero_or_pos ys.length with h0 | h0
                · rw [hly, h0, Nat.zero_mul] at this; omega
                · exact h0
              obtain ⟨a', ha, _, hc'⟩ := hmy hp
              injection ha with ha
              subst ha
              exact hc' j u hj
            obtain ⟨v1, w1, hr, h2, h3, _, h5⟩ := run_append_own_at (P := P) w B t ty e i zv d.size d.bytes hu hi hi3 hi1 hi2 hzc c3 vx xs.length cx hox ad ys.length cc cy hly hcells (relF_one _ _ hFy')
              (by simp only [maxLen]; omega) c4 hI.hB
            exact ⟨v1, w1, hr, h2, h3, h5⟩
        obtain ⟨v1, w1, hr, ho1, hg, hat⟩ := hrun
        have hnewrow : RowOk Im φ s B w w1 v1.ownBlock e d.size (xs ++ ys) := by
          refine .inl ⟨c3, ?_⟩
          rcases ho1.2 with ⟨rfl, hn⟩ | ⟨g, cap, cur, rfl, j1, j2, j3, j4, j5, j6⟩
          · refine .inl ⟨rfl, List.eq_nil_of_length_eq_zero (by simpa using hn)⟩
          · exact .inr ⟨g, cap, cur, _, rfl, j2, j5, j4, by simpa using j3, relF_append _ _ _ _ hFx hFy', by rw [List.length_append]; exact j6⟩
        obtain ⟨hs1, hs2⟩ := hI.row K vx.ownBlock (by
          rcases hrow with h | ⟨n, h1, h2, h3⟩
          · exact .inl h
          · exact .inr ⟨n, h1, h2, h3⟩) hg (run_drawn _ _ _ _ hr) v1.ownBlock (fun g hg' => by
          refine ⟨(ho1.lt g hg').2, ?_⟩
          rcases hat with h | h
          · exact .inl (by rw [← hg', h])
          · right
            rw [h] at hg'
            injection hg' with hg'
            omega) hnewrow
        refine ⟨_, _, _, hr, hs1, hs2, so_new hs2 (by simp) ⟨c3, ?_⟩⟩
        rcases ho1.2 with ⟨rfl, hn⟩ | ⟨g, cap, cur, rfl, j1, j2, j3, j4, j5, j6⟩
        · exact .inl ⟨by simp [Value.ownBlock], rfl, hn, rfl⟩
        · exact .inr ⟨g, cap, 0, by simp [Value.ownBlock], ⟨g, cur, by simp [Value.ownBlock], j2, by rw [Nat.zero_add]; exact j5, by rw [Nat.zero_add]; exact j4⟩, j3, rfl, by simp, fun _ => rfl⟩
      · cases h
    · cases h
  · cases h

theorem alloc_ok (hI : Inv Im φ s B w) {t : Nat} {x : AV} {s' : St} (h : allocAV T s t = some (x, s')) :
    ∃ φ' v w', (Instr.alloc t true (.tuple #[])).run P w = .ok v w' ∧ Step B φ s w φ' s' w' ∧ Inv Im φ' s' B w' ∧ rel Im φ' s' B w' x v ∧ Below w.heap.size w w' := by
  unfold allocAV at h
  split at h
  · rename_i d hd
    simp only [Option.some.injEq, Prod.mk.injEq] at h
    obtain ⟨rfl, rfl⟩ := h
    obtain ⟨_, _, _, _, _, _, _, _, hzl, hz1, _⟩ := hT t d hd
    obtain ⟨zv, hzv, hzc⟩ := zero_all hT hd
    have hzero : ∀ (l : List Value), relL Im φ s B w (l.map cst) l := by
      intro l
      induction l with
      | nil => simp [relL]
      | cons u l ih => simp only [List.map_cons, relL]; exact ⟨u, l, rfl, rel_cst .., ih⟩
    obtain ⟨hs1, hs2⟩ := hI.newBox t (d.zero.map cst) d.zero (hzero _) hz1
    refine ⟨_, .pointer (some ⟨w.heap.size, 0, none⟩), _, ?_, hs1, hs2, ?_, (Below.refl _ _).alloc (Nat.le_refl _) _⟩
    · unfold Instr.alloc
      simp only [Sem.run_bind, hzv, Result.andThen_ok, newVar, hzc, run_newRow', Sem.run_pure]
    · simp only [rel]
      exact ⟨by simp, by simp⟩
  · cases h

omit hT in
theorem box_ok (hI : Inv Im φ s B w) {t : Nat} {x z : AV} {v : Value} {s' : St} (h : boxAV s t x = some (z, s')) (hx : rel Im φ s B w x v) :
    ∃ φ' u w', (Instr.box t v).run P w = .ok u w' ∧ Step B φ s w φ' s' w' ∧ Inv Im φ' s' B w' ∧ rel Im φ' s' B w' z u ∧ Below w.heap.size w w' := by
  unfold boxAV at h
  split at h
  · rename_i ys hys
    simp only [Option.some.injEq, Prod.mk.injEq] at h
    obtain ⟨rfl, rfl⟩ := h
    obtain ⟨h1, h2⟩ := okCells_ok hys hx
    obtain ⟨hs1, hs2⟩ := hI.newBox t ys v.cells.toList h1 h2
    refine ⟨_, .pointer (some ⟨w.heap.size, 0, none⟩), _, ?_, hs1, hs2, ?_, (Below.refl _ _).alloc (Nat.le_refl _) _⟩
    · unfold Instr.box
      simp only [newVar, Sem.run_bind, run_newRow', Result.andThen_ok, Sem.run_pure, Array.toArray_toList]
    · simp only [rel]
      exact ⟨by simp, by simp⟩
  · cases h

/-- Every operation of 'evE'. -/
theorem evE_ok (hI : Inv Im φ s B w) {F : Fr} {a : Act} (hF : Holds Im φ s B w F a) {o : Oper} {x : AV} {s' : St} (h : evE T F s o.op = some (x, s')) :
    ∃ φ' v w', (execOp a.eval o).run P w = .ok (.value v) w' ∧ Step B φ s w φ' s' w' ∧ Inv Im φ' s' B w' ∧ rel Im φ' s' B w' x v ∧ (isNew o.op = true → Below w.heap.size w w') := by
  have lift : ∀ (m : Sem Value) (v : Value) (w' : World), m.run P w = .ok v w' → (do pure (Next.value (← m)) : Sem Next).run P w = .ok (.value v) w' := fun m v w' hm => by simp [hm]
  obtain ⟨dst, op, ty, pos, after, guard⟩ := o
  simp only at h
  cases op with
  | alloc t =>
    obtain ⟨φ', v, w', h1, h2, h3, h4, h5⟩ := alloc_ok hT hI h
    exact ⟨φ', v, w', lift _ _ _ h1, h2, h3, h4, fun _ => h5⟩
  | box t p =>
    obtain ⟨φ', v, w', h1, h2, h3, h4, h5⟩ := box_ok (P := P) hI h (look_ok hF p)
    exact ⟨φ', v, w', lift _ _ _ h1, h2, h3, h4, fun _ => h5⟩
  | buildSlice t len parts =>
    obtain ⟨φ', v, w', h1, h2, h3, h4, h5⟩ := buildSlice_ok hT hI hF h
    exact ⟨φ', v, w', lift _ _ _ h1, h2, h3, h4, fun _ => h5⟩
  | makeSlice t l c =>
    obtain ⟨φ', v, w', h1, h2, h3, h4, h5⟩ := makeSlice_ok hT hI h (look_ok hF l) (look_ok hF c)
    exact ⟨φ', v, w', lift _ _ _ h1, h2, h3, h4, fun _ => h5⟩
  | call c =>
    obtain ⟨callee, ⟨args⟩, ⟨ats⟩⟩ := c
    simp only [evE] at h
    split at h
    · rename_i p q t t'
      split at h
      · rename_i htt
        subst htt
        obtain ⟨φ', v, w', h1, h2, h3, h4⟩ := append_ok (ty := ty) hT hI h (look_ok hF p) (look_ok hF q)
        refine ⟨φ', v, w', ?_, h2, h3, h4, fun hn => by simp [isNew] at hn⟩
        simp [execOp, resolve, invoke, builtin, h1]
      · cases h
    · cases h
  | _ => simp [evE] at h
end
end Go.Proofs.YtmcfgljdpjalfaaV
