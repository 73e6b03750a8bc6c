/- The abstract layer, sixth text: operations that make memory: boxes, rows, append. -/
import Derived.Test.YtfodigfliiemeaaA5
import Derived.Laws.MakeOwn
namespace Go.Proofs.YtfodigfliiemeaaA
open Go.RowKit

def zeroElem? (d : TD) : Option AV := if d.agg = true then some (.agg (d.zero.map cst)) else match d.zero with | [u] => some (cst u) | _ => none
def fillE (s : St) (sz : Nat) (xs : List AV) : List (Nat × AV) → Option (List AV)
  | [] => some xs
  | (i, x) :: rest => match okCells s x with
    | some ys => if ys.length = sz ∧ i < xs.length then fillE s sz (xs.set i x) rest else none
    | none => none
def buildSliceAV (T : Tab) (s : St) (t len : Nat) (parts : List (Nat × AV)) : Option (AV × St) :=
  match elemOf? T t with
  | some (e, d) => match zeroElem? d with
    | some z => if len * d.size ≤ 16777216 ∧ 0 < d.size then
        (match fillE s d.size (List.replicate len z) parts with
        | some xs => some (.sl e d.size (.own s.tok.length) xs, s.new none)
        | none => none) else none
    | none => none
  | none => none
def makeSliceAV (T : Tab) (s : St) (t : Nat) (l c : AV) : Option (AV × St) :=
  match elemOf? T t, l, c with
  | some (e, d), .int _ l, .int _ c => match zeroElem? d with
    | some z => if 0 ≤ l ∧ l ≤ c ∧ (d.bytes : Int) * c ≤ 281474976710656 ∧ c ≤ 9223372036854775807 then some (.sl e d.size (.own s.tok.length) (List.replicate l.toNat z), s.new none) else none
    | none => none
  | _, _, _ => none
/-- What append does to the token, and the elements that stand. -/
def appTok (s : St) (e sz : Nat) (x : AV) : Option (Option Nat × List AV) :=
  match x with
  | .sl e' sz' (.own n) xs => if s.live n = true ∧ e' = e ∧ sz' = sz then some (some n, xs) else none
  | .sl _ _ .nil xs => some (none, xs)
  | _ => none
def appendAV (T : Tab) (s : St) (t : Nat) (x y : AV) : Option (AV × St) :=
  match elemOf? T t, y with
  | some (e, d), .sl _ sz tk ys => match appTok s e d.size x with
    | some (K, xs) => if tk.ok s = true ∧ (sz = d.size ∨ ys = []) ∧ 0 < d.size ∧ (xs.length + ys.length) * d.bytes ≤ 140737488355328 ∧ xs.length + ys.length ≤ 140737488355328 then some (.sl e d.size (.own s.tok.length) (xs ++ ys), s.new K) else none
    | none => none
  | _, _ => none
def allocAV (T : Tab) (s : St) (t : Nat) : Option (AV × St) :=
  match T t with
  | some d => some (.ptr s.box.length 0, ⟨s.box ++ [(t, d.zero.map cst)], s.tok⟩)
  | none => none
def boxAV (s : St) (t : Nat) (x : AV) : Option (AV × St) :=
  match okCells s x with
  | some ys => some (.ptr s.box.length 0, ⟨s.box ++ [(t, ys)], s.tok⟩)
  | none => none
def evE (T : Tab) (F : Fr) (s : St) : Op → Option (AV × St)
  | .alloc t => allocAV T s t
  | .box t x => boxAV s t (look F x)
  | .buildSlice t len parts => buildSliceAV T s t len (parts.toList.map fun p => (p.1, look F p.2))
  | .makeSlice t l c => makeSliceAV T s t (look F l) (look F c)
  | .call c => match c.callee, c.args.toList, c.argTypes.toList with
    | .builtin .append, [x, y], [t, t'] => if t = t' then appendAV T s t (look F x) (look F y) else none
    | _, _, _ => none
  | _ => none
/-- It lays new blocks and leaves what was. -/
def isNew : Op → Bool
  | .alloc _ | .box .. | .buildSlice .. | .makeSlice .. => true
  | _ => false

theorem run_newRow' {P : Program} (e : Nat) (cs : Array Value) (w : World) : (newRow e cs).run P w = .ok ⟨w.heap.size, 0, none⟩ (w.alloc (.cells cs e)) := rfl

theorem fold_set (v : Array Value) (off : Nat) (cs : List Value) (h : off + v.size ≤ cs.length) :
    (v.zipIdx.foldl (fun cs (c, j) => cs.setIfInBounds (off + j) c) cs.toArray) = (cs.take off ++ v.toList ++ cs.drop (off + v.size)).toArray := by
  apply Array.ext_getElem?
  intro k
  have key : ∀ (l : List Value) (n : Nat) (A : Array Value), (∀ k, ((l.zipIdx n).foldl (fun cs (c, j) => cs.setIfInBounds (off + j) c) A)[k]? = if off + n ≤ k ∧ k < off + n + l.length ∧ k < A.size then l[k - (off + n)]? else A[k]?) := by
    intro l
    induction l with
    | nil => intro n A k; simp; omega
    | cons y l ih =>
      intro n A k
      simp only [List.zipIdx_cons, List.foldl_cons]
      rw [ih]
      simp only [Array.size_setIfInBounds, List.length_cons, Array.getElem?_setIfInBounds]
      by_cases e : off + n = k
      · subst e
        by_cases hs : off + n < A.size
        · rw [if_neg (by omega), if_pos rfl, if_pos hs, if_pos (by omega)]
          simp
        · rw [if_neg (by omega), if_pos rfl, if_neg hs, if_neg (by omega)]
          simp at hs
          simp [Array.getElem?_eq_none hs]
      · rw [if_neg e]
        by_cases hs : off + n ≤ k ∧ k < off + n + (l.length + 1) ∧ k < A.size
        · rw [if_pos (by omega), if_pos hs]
          have : k - (off + n) = (k - (off + (n + 1))) + 1 := by omega
          rw [this]
          rfl
        · rw [if_neg (by omega), if_neg hs]
  rw [← Array.foldl_toList]
  have := key v.toList 0 cs.toArray k
  simp only [Array.toList_zipIdx]
  rw [this]
  simp only [List.size_toArray, Nat.add_zero, List.getElem?_toArray, Array.length_toList]
  rw [List.append_assoc, List.getElem?_append, List.length_take, Nat.min_eq_left (by omega)]
  by_cases hk : k < off
  · rw [if_neg (by omega), if_pos hk, List.getElem?_take, if_pos hk]
  · rw [if_neg hk, List.getElem?_append]
    by_cases hk2 : k - off < v.toList.length
    · rw [Array.length_toList] at hk2
      rw [if_pos (by omega), if_pos (by simpa using hk2)]
    · rw [Array.length_toList] at hk2
      rw [if_neg (by omega), if_neg (by simpa using hk2), List.getElem?_drop, Array.length_toList]
      congr 1
      omega

section
variable {P : Program} {T : Tab} (hT : TabOk P T) {Im : Nat → Prop} {φ : Emb} {s : St} {B : Nat} {w : World}

theorem relF_set {sz : Nat} : ∀ (xs : List AV) (cs : List Value), relF Im φ s B w sz xs cs → ∀ (i : Nat) (x : AV) (v : Value), i < xs.length → v.cells.size = sz → (∀ u ∈ v.cells.toList, u.oneCell' = true) → rel Im φ s B w x v →
    relF Im φ s B w sz (xs.set i x) (cs.take (i * sz) ++ v.cells.toList ++ cs.drop (i * sz + sz))
  | [], cs, h, i, x, v, hi, _, _, _ => by simp at hi
  | y :: xs, cs, h, i, x, v, hi, h1, h2, h3 => by
    simp only [relF] at h
    obtain ⟨u, r, rfl, g1, g2, g3, g4⟩ := h
    have hl : u.cells.toList.length = sz := by simpa using g1
    cases i with
    | zero =>
      simp only [List.set_cons_zero, relF]
      refine ⟨v, r, ?_, h1, h2, h3, g4⟩
      simp [hl]
    | succ i =>
      simp only [List.set_cons_succ, relF]
      have ih := relF_set xs r g4 i x v (by simpa using hi) h1 h2 h3
      refine ⟨u, _, ?_, g1, g2, g3, ih⟩
      rw [List.take_append, List.take_of_length_le (by rw [hl, Nat.add_mul]; omega), List.drop_append, List.drop_of_length_le (by rw [hl, Nat.add_mul]; omega), hl]
      have e1 : (i + 1) * sz - sz = i * sz := by rw [Nat.add_mul]; omega
      have e2 : (i + 1) * sz + sz - sz = i * sz + sz := by rw [Nat.add_mul]; omega
      rw [e1, e2]
      simp [List.append_assoc]

theorem fillE_ok (sz : Nat) : ∀ (parts : List (Nat × AV)) (vs : List (Nat × Value)) (xs : List AV) (cs : List Value) (zs : List AV),
    (∀ (i : Nat) (p : Nat × AV), parts[i]? = some p → ∃ v, vs[i]? = some (p.1, v) ∧ rel Im φ s B w p.2 v) → vs.length = parts.length → relF Im φ s B w sz xs cs → fillE s sz xs parts = some zs →
    ∃ ds : List Value, Instr.fill (fun i => some (i * sz, sz)) cs.toArray vs = some ds.toArray ∧ relF Im φ s B w sz zs ds ∧ zs.length = xs.length
  | [], vs, xs, cs, zs, hp, hl, hr, h => by
    simp only [fillE, Option.some.injEq] at h
    subst h
    have : vs = [] := List.eq_nil_of_length_eq_zero (by simpa using hl)
    subst this
    exact ⟨cs, rfl, hr, rfl⟩
  | (i, x) :: rest, vs, xs, cs, zs, hp, hl, hr, h => by
    simp only [fillE] at h
    split at h
    · rename_i ys hok
      split at h
      · rename_i hc
        obtain ⟨hc1, hc2⟩ := hc
        obtain ⟨v, hv, hrv⟩ := hp 0 _ rfl
        cases vs with
        | nil => simp at hl
        | cons q vs =>
          simp only [List.getElem?_cons_zero, Option.some.injEq] at hv
          subst hv
          obtain ⟨hrl, hro⟩ := okCells_ok hok hrv
          have hsz : v.cells.size = sz := by have := relL_len _ _ hrl; simp at this; omega
          have hlc := relF_len _ _ hr
          have hfit : i * sz + sz ≤ cs.length := by rw [hlc, ← Nat.succ_mul]; exact Nat.mul_le_mul_right _ hc2
          obtain ⟨ds, k1, k2, k3⟩ := fillE_ok sz rest vs (xs.set i x) (cs.take (i * sz) ++ v.cells.toList ++ cs.drop (i * sz + sz)) zs (fun i p hip => hp (i + 1) p hip) (by simpa using hl)
            (relF_set xs cs hr i x v hc2 hsz hro hrv) h
          refine ⟨ds, ?_, k2, by simpa using k3⟩
          unfold Instr.fill
          simp only
          rw [if_neg (by rw [hsz]; simp; omega), fold_set _ _ _ (by rw [hsz]; exact hfit), hsz]
          exact k1
      · cases h
    · cases h

theorem zeroElem_ok {d : TD} {z : AV} (h : zeroElem? d = some z) (h1 : ∀ u ∈ d.zero, u.oneCell' = true) : ∃ v : Value, v.cells.toList = d.zero ∧ rel Im φ s B w z v := by
  unfold zeroElem? at h
  split at h
  · injection h with h
    subst h
    refine ⟨.agg d.zero.toArray, by simp [Value.cells], ?_⟩
    simp only [rel]
    refine ⟨d.zero, rfl, ?_, h1⟩
    clear h1
    induction d.zero with
    | nil => simp [relL]
    | cons u l ih => simp only [List.map_cons, relL]; exact ⟨u, l, rfl, rel_cst .., ih⟩
  · split at h
    · rename_i u hu
      injection h with h
      subst h
      refine ⟨u, ?_, rel_cst ..⟩
      have := h1 u (by rw [hu]; simp)
      rw [hu]
      cases u <;> simp [Value.oneCell'] at this <;> simp [Value.cells]
    · cases h

theorem made_cells (z : Array Value) (n : Nat) : ((Array.range (n * z.size)).map (z[· % z.size]!)).toList = (List.replicate n z.toList).flatten := by
  induction n with
  | zero => simp
  | succ n ih =>
    rw [List.replicate_succ', List.flatten_append]
    simp only [List.flatten_singleton]
    rw [← ih]
    apply List.ext_getElem?
    intro k
    simp only [Array.toList_map, Array.toList_range, List.getElem?_map, List.getElem?_append, List.length_map, List.length_range]
    by_cases hk : k < n * z.size
    · rw [if_pos hk, List.getElem?_range (by rw [Nat.add_mul]; omega), List.getElem?_range hk]
    · rw [if_neg hk]
      by_cases hk2 : k < (n + 1) * z.size
      · rw [List.getElem?_range hk2]
        have hz : k - n * z.size < z.size := by rw [Nat.add_mul] at hk2; omega
        have hm : k % z.size = k - n * z.size := by
          have : k = (k - n * z.size) + n * z.size := by omega
          rw [this, Nat.add_mul_mod_self_right, Nat.mod_eq_of_lt hz]
          omega
        simp only [Option.map_some, hm]
        rw [getElem!_pos z _ hz]
        simp [hz]
      · rw [List.getElem?_eq_none (by simp; omega)]
        simp only [Option.map_none]
        rw [List.getElem?_eq_none (by simp; rw [Nat.add_mul] at hk2; omega)]

theorem relF_replicate {sz : Nat} {z : AV} {v : Value} (hr : rel Im φ s B w z v) (hs : v.cells.size = sz) (h1 : ∀ u ∈ v.cells.toList, u.oneCell' = true) : ∀ n, relF Im φ s B w sz (List.replicate n z) (List.replicate n v.cells.toList).flatten
  | 0 => by simp [relF]
  | n + 1 => by
    simp only [List.replicate_succ, List.flatten_cons, relF]
    exact ⟨v, _, rfl, hs, h1, hr, relF_replicate hr hs h1 n⟩
include hT

theorem zero_all {t : Nat} {d : TD} (h : T t = some d) : ∃ z : Value, (∀ w', (zeroValue t).run P w' = .ok z w') ∧ z.cells = d.zero.toArray := by
  obtain ⟨_, i, z, e1, _, _, e2, e3, e4, _⟩ := hT t d h
  exact ⟨z, fun w' => by simp [zeroValue, typeInfo, program, Sem.run, bind, Sem.bind, e1, e2, pure], by rw [← e3]⟩

theorem buildSlice_ok (hI : Inv Im φ s B w) {F : Fr} {a : Act} (hF : Holds Im φ s B w F a) {t len : Nat} {parts : Array (Nat × Operand)} {x : AV} {s' : St} (h : buildSliceAV T s t len (parts.toList.map fun p => (p.1, look F p.2)) = some (x, s')) :
    ∃ φ' v w', (Instr.buildSlice t len (parts.map fun (i, x) => (i, a.eval x))).run P w = .ok v w' ∧ Step B φ s w φ' s' w' ∧ Inv Im φ' s' B w' ∧ rel Im φ' s' B w' x v ∧ Below w.heap.size w w' := by
  unfold buildSliceAV at h
  split at h
  · rename_i e d he
    obtain ⟨hk, hd⟩ := elemOf?_spec he
    obtain ⟨_, _, _, _, _, _, _, _, hzl, hz1, _⟩ := hT e d hd
    split at h
    · rename_i z hz
      split at h
      · rename_i hcap
        obtain ⟨hcap, hpos⟩ := hcap
        split at h
        · rename_i xs hxs
          simp only [Option.some.injEq, Prod.mk.injEq] at h
          obtain ⟨rfl, rfl⟩ := h
          obtain ⟨vz, hvz, hrz⟩ := zeroElem_ok (Im := Im) (φ := φ) (s := s) (B := B) (w := w) hz hz1
          obtain ⟨zv, hzv, hzc⟩ := zero_all hT hd
          have hsz : vz.cells.size = d.size := by rw [← hzl, ← hvz]; simp
          have hrep := relF_replicate hrz hsz (by rw [hvz]; exact hz1) len
          obtain ⟨ds, k1, k2, k3⟩ := fillE_ok d.size _ (parts.toList.map fun p => (p.1, a.eval p.2)) _ _ xs
            (by
              intro i p hp
              rw [List.getElem?_map] at hp
              obtain ⟨q, hq, rfl⟩ := Option.map_eq_some_iff.1 hp
              refine ⟨a.eval q.2, ?_, look_ok hF q.2⟩
              rw [List.getElem?_map, hq]
              rfl) (by simp) hrep hxs
          have hxl : xs.length = len := by simpa using k3
          have hdl : ds.length = len * d.size := by rw [relF_len _ _ k2, hxl]
          have hrun : (Instr.buildSlice t len (parts.map fun (i, x) => (i, a.eval x))).run P w = .ok (.slice (some ⟨w.heap.size, 0, none⟩) len len) (w.alloc (.cells ds.toArray e)) := by
            unfold Instr.buildSlice
            rw [Sem.run_bind, kindOf_run hT hk]
            simp only [Result.andThen_ok]
            rw [Sem.run_bind, run_size hT hd]
            simp only [Result.andThen_ok]
            rw [if_neg (by omega)]
            have hcells : ∀ zc : Array Value, (len * d.size = 0 ∨ zc = d.zero.toArray) → ((Array.range (len * d.size)).map (zc[· % zc.size]!)) = (List.replicate len vz.cells.toList).flatten.toArray := by
              intro zc hzc'
              rcases Nat.eq_zero_or_pos (len * d.size) with h0 | h0
              · have e1 : (List.replicate len vz.cells.toList).flatten = [] := by
                  apply List.eq_nil_of_length_eq_zero
                  rw [relF_len _ _ hrep]
                  simpa using h0
                rw [h0, e1]
                simp
              · have e1 : zc = d.zero.toArray := by
                  rcases hzc' with h | h
                  · omega
                  · exact h
                subst e1
                have := made_cells d.zero.toArray len
                rw [hvz]
                apply Array.ext'
                simp only [List.size_toArray] at this
                rw [← hzl]
                simpa using this
            by_cases h0 : len * d.size = 0
            · rw [if_pos h0]
              simp only [Sem.run_bind, Sem.run_pure, Result.andThen_ok, Array.toList_map]
              rw [hcells _ (.inl h0), k1]
              simp only [Sem.run_bind, run_newRow', Result.andThen_ok, Sem.run_pure]
            · rw [if_neg h0]
              simp only [Sem.run_bind, Sem.run_pure, Result.andThen_ok, hzv, Array.toList_map]
              rw [hcells _ (.inr hzc), k1]
              simp only [Sem.run_bind, run_newRow', Result.andThen_ok, Sem.run_pure]
          have hg : w.grownBy (w.alloc (.cells ds.toArray e)) none := World.grownBy_alloc w _ none
          obtain ⟨hs1, hs2⟩ := hI.row none none (.inl rfl) hg (some w.heap.size) (fun g hg' => by
            injection hg' with hg'
            subst hg'
            exact ⟨by simp, .inr (Nat.le_refl _)⟩)
          refine ⟨_, _, _, hrun, hs1, hs2, ?_, (Below.refl _ _).alloc (Nat.le_refl _) _⟩
          simp only [rel]
          refine ⟨ds, relF_step hs1 _ _ _ k2, ?_⟩
          refine ⟨by simp [St.new, kill_len], fun _ => ⟨?_, by simp [Value.ownBlock]⟩⟩
          rw [hxl]
          have := World.ownsRow_lit (base := B) (e := e) (size := d.size) w ds.toArray len hI.hB (by simp only [maxLen]; have := Nat.le_mul_of_pos_right len hpos; omega) (by simpa using hdl)
          simpa using this
        · cases h
      · cases h
    · cases h
  · cases h

theorem makeSlice_ok (hI : Inv Im φ s B w) {t : Nat} {l c x : AV} {vl vc : Value} {s' : St} (h : makeSliceAV T s t l c = some (x, s')) (hl : rel Im φ s B w l vl) (hc : rel Im φ s B w c vc) :
    ∃ φ' v w', (Instr.makeSlice t vl vc).run P w = .ok v w' ∧ Step B φ s w φ' s' w' ∧ Inv Im φ' s' B w' ∧ rel Im φ' s' B w' x v ∧ Below w.heap.size w w' := by
  unfold makeSliceAV at h
  split at h
  · rename_i e d kl l' kc c' he
    obtain ⟨hk, hd⟩ := elemOf?_spec he
    obtain ⟨hu, _⟩ := kindOf_und hT hk
    obtain ⟨_, i, zv, hi, hi1, hi2, hi3, hi4, hzl, hz1, _⟩ := hT e d hd
    split at h
    · rename_i z hz
      split at h
      · rename_i hc4
        obtain ⟨c1, c2, c3, c4⟩ := hc4
        simp only [Option.some.injEq, Prod.mk.injEq] at h
        obtain ⟨rfl, rfl⟩ := h
        simp only [rel] at hl hc
        subst hl hc
        obtain ⟨vz, hvz, hrz⟩ := zeroElem_ok (Im := Im) (φ := φ) (s := s) (B := B) (w := w) hz hz1
        have hsz : vz.cells.size = d.size := by rw [← hzl, ← hvz]; simp
        have hrep := relF_replicate hrz hsz (by rw [hvz]; exact hz1)
        have hrun := run_make (P := P) w t e i zv hu hi hi3 kl kc l' c' c1 c2 (by rw [hi2]; exact c3) c4
        rw [hi1] at hrun
        have hzc : zv.cells = d.zero.toArray := by rw [← hi4]
        have hmade : (madeCells zv.cells (c'.toNat * d.size)).toList = (List.replicate c'.toNat vz.cells.toList).flatten := by
          have := made_cells d.zero.toArray c'.toNat
          rw [hzc, hvz, ← hzl]
          simpa [madeCells] using this
        have hg : w.grownBy (w.alloc (.cells (madeCells zv.cells (c'.toNat * d.size)) e)) none := World.grownBy_alloc w _ none
        obtain ⟨hs1, hs2⟩ := hI.row none none (.inl rfl) hg (some w.heap.size) (fun g hg' => by
          injection hg' with hg'
          subst hg'
          exact ⟨by simp, .inr (Nat.le_refl _)⟩)
        refine ⟨_, _, _, hrun, hs1, hs2, ?_, (Below.refl _ _).alloc (Nat.le_refl _) _⟩
        simp only [rel]
        refine ⟨(List.replicate l'.toNat vz.cells.toList).flatten, relF_step hs1 _ _ _ (hrep l'.toNat), ?_⟩
        refine ⟨by simp [St.new, kill_len], fun _ => ⟨?_, by simp [Value.ownBlock]⟩⟩
        rw [List.length_replicate]
        have hfl : (List.replicate l'.toNat vz.cells.toList).flatten.length = l'.toNat * d.size := by
          have := relF_len _ _ (hrep l'.toNat)
          simpa using this
        refine ⟨hfl, .inr ⟨w.heap.size, c'.toNat, _, rfl, hI.hB, heap_alloc_new w _, by omega, by simp only [maxLen]; omega, size_madeCells _ _, ?_⟩⟩
        rw [hmade]
        have hsplit : (List.replicate c'.toNat vz.cells.toList).flatten = (List.replicate l'.toNat vz.cells.toList).flatten ++ (List.replicate (c'.toNat - l'.toNat) vz.cells.toList).flatten := by
          rw [← List.flatten_append, List.replicate_append_replicate]
          congr 2
          omega
        rw [hsplit, ← hfl]
        exact List.take_left
      · cases h
    · cases h
  · cases h

theorem append_ok (hI : Inv Im φ s B w) {t ty : Nat} {x y z : AV} {vx vy : Value} {s' : St} (h : appendAV T s t x y = some (z, s')) (hx : rel Im φ s B w x vx) (hy : rel Im φ s B w y vy) :
    ∃ φ' v w', (Builtin.append_ #[t, t] ty #[vx, vy]).run P w = .ok v w' ∧ Step B φ s w φ' s' w' ∧ Inv Im φ' s' B w' ∧ rel Im φ' s' B w' z v := by
  unfold appendAV at h
  split at h
  · rename_i e d e' sz tk ys he
    obtain ⟨hk, hd⟩ := elemOf?_spec he
    obtain ⟨hu, _⟩ := kindOf_und hT hk
    obtain ⟨_, i, zv, hi, hi1, hi2, hi3, hi4, hzl, hz1, _⟩ := hT e d hd
    split at h
    · rename_i K xs hK
      split at h
      · rename_i hc
        obtain ⟨c1, c2, c3, c4, c5⟩ := hc
        simp only [Option.some.injEq, Prod.mk.injEq] at h
        obtain ⟨rfl, rfl⟩ := h
        simp only [rel] at hy
        obtain ⟨cy, hFy, hmy⟩ := hy
        obtain ⟨Ay, cc, rfl, _⟩ := hmy.slice c1
        have hFy' : relF Im φ s B w d.size ys cy := by
          rcases c2 with c2 | c2
          · rw [← c2]; exact hFy
          · subst c2; simp only [relF] at hFy ⊢; exact hFy
        have hly := relF_len _ _ hFy'
        have hzc : zv.cells.size = d.size := by rw [← hzl, ← hi4]; simp
        have hown : ∃ cx, relF Im φ s B w d.size xs cx ∧ w.ownsRow B e d.size vx xs.length cx ∧ (vx.ownBlock = none ∨ ∃ n, K = some n ∧ s.live n = true ∧ φ.tk n = vx.ownBlock) := by
          unfold appTok at hK
          split at hK
          · rename_i e1 sz1 n xs1
            split at hK
            · rename_i hcc
              obtain ⟨k1, k2, k3⟩ := hcc
              simp only [Option.some.injEq, Prod.mk.injEq] at hK
              obtain ⟨rfl, rfl⟩ := hK
              subst k2 k3
              simp only [rel] at hx
              obtain ⟨cx, hFx, hmx⟩ := hx
              obtain ⟨_, hm⟩ := hmx
              obtain ⟨ho, hb⟩ := hm k1
              exact ⟨cx, hFx, ho, .inr ⟨n, rfl, k1, hb.symm⟩⟩
            · cases hK
          · rename_i e1 sz1 xs1
            simp only [Option.some.injEq, Prod.mk.injEq] at hK
            obtain ⟨rfl, rfl⟩ := hK
            simp only [rel] at hx
            obtain ⟨cx, hFx, rfl, hn⟩ := hx
            have : xs1 = [] := List.eq_nil_of_length_eq_zero hn
            subst this
            exact ⟨[], by simp [relF], World.ownsRow_nil _ _ _ _, .inl rfl⟩
          · cases hK
        obtain ⟨cx, hFx, hox, hrow⟩ := hown
        have hrun : ∃ v1 w1, (Builtin.append_ #[t, t] ty #[vx, .slice Ay ys.length cc]).run P w = .ok v1 w1 ∧ w1.ownsRow B e d.size v1 (xs.length + ys.length) (cx ++ cy) ∧ w.grownBy w1 vx.ownBlock ∧
            (v1.ownBlock = vx.ownBlock ∨ v1.ownBlock = some w.heap.size) := by
          rcases Ay with _ | ad
          · have h0 : ys.length = 0 := by
              rcases Nat.eq_zero_or_pos ys.length with h0 | h0
              · exact h0
              · obtain ⟨a, ha, _⟩ := hmy.at_ c1 h0
                cases ha
            have : cy = [] := by
              apply List.eq_nil_of_length_eq_zero
              rw [hly, h0, Nat.zero_mul]
            subst this
            rw [h0]
            refine ⟨vx, w, ?_, by simpa using hox, ⟨rfl, rfl, rfl, Nat.le_refl _, fun _ _ _ => rfl⟩, .inl rfl⟩
            rcases hox.2 with ⟨rfl, hn⟩ | ⟨g, cap, cur, rfl, _, _, hnc, _⟩
            · simp [Builtin.append_, run_underlying hu, sizeOf, typeInfo, hi, Builtin.lenOf, Builtin.firstCells]
            · simp [Builtin.append_, run_underlying hu, sizeOf, typeInfo, hi, Builtin.lenOf, Builtin.firstCells, hnc, storeCells]
          · have hcells : ∀ (j : Nat) (u : Value), cy[j]? = some u → w.cell? (ad.add j) = some u := by
              intro j u hj
              have hp : 0 < ys.length := by
                have := (List.getElem?_eq_some_iff.1 hj).1
                rcases Nat.eq_zero_or_pos ys.length with h0 | h0
                · rw [hly, h0, Nat.zero_mul] at this; omega
                · exact h0
              obtain ⟨a', ha, _, hc'⟩ := hmy.at_ c1 hp
              injection ha with ha
              subst ha
              exact hc' j u hj
            obtain ⟨v1, w1, hr, h2, h3, _, h5⟩ := run_append_own_at (P := P) w B t ty e i zv d.size d.bytes hu hi hi3 hi1 hi2 hzc c3 vx xs.length cx hox ad ys.length cc cy hly hcells (relF_one _ _ hFy')
              (by simp only [maxLen]; omega) c4 hI.hB
            exact ⟨v1, w1, hr, h2, h3, h5⟩
        obtain ⟨v1, w1, hr, ho1, hg, hat⟩ := hrun
        obtain ⟨hs1, hs2⟩ := hI.row K vx.ownBlock (by
          rcases hrow with h | ⟨n, h1, h2, h3⟩
          · exact .inl h
          · exact .inr ⟨n, h1, h2, h3⟩) hg v1.ownBlock (fun g hg' => by
          refine ⟨(ho1.lt g hg').2, ?_⟩
          rcases hat with h | h
          · exact .inl (by rw [← hg', h])
          · right
            rw [h] at hg'
            injection hg' with hg'
            omega)
        refine ⟨_, _, _, hr, hs1, hs2, ?_⟩
        simp only [rel]
        refine ⟨cx ++ cy, relF_append _ _ _ _ (relF_step hs1 _ _ _ hFx) (relF_step hs1 _ _ _ hFy'), ?_⟩
        refine ⟨by simp [St.new, kill_len], fun _ => ⟨?_, by simp⟩⟩
        rw [List.length_append]
        exact ho1
      · cases h
    · cases h
  · cases h

theorem alloc_ok (hI : Inv Im φ s B w) {t : Nat} {x : AV} {s' : St} (h : allocAV T s t = some (x, s')) :
    ∃ φ' v w', (Instr.alloc t true (.tuple #[])).run P w = .ok v w' ∧ Step B φ s w φ' s' w' ∧ Inv Im φ' s' B w' ∧ rel Im φ' s' B w' x v ∧ Below w.heap.size w w' := by
  unfold allocAV at h
  split at h
  · rename_i d hd
    simp only [Option.some.injEq, Prod.mk.injEq] at h
    obtain ⟨rfl, rfl⟩ := h
    obtain ⟨_, _, _, _, _, _, _, _, hzl, hz1, _⟩ := hT t d hd
    obtain ⟨zv, hzv, hzc⟩ := zero_all hT hd
    have hzero : ∀ (l : List Value), relL Im φ s B w (l.map cst) l := by
      intro l
      induction l with
      | nil => simp [relL]
      | cons u l ih => simp only [List.map_cons, relL]; exact ⟨u, l, rfl, rel_cst .., ih⟩
    obtain ⟨hs1, hs2⟩ := hI.newBox t (d.zero.map cst) d.zero (hzero _) hz1
    refine ⟨_, .pointer (some ⟨w.heap.size, 0, none⟩), _, ?_, hs1, hs2, ?_, (Below.refl _ _).alloc (Nat.le_refl _) _⟩
    · unfold Instr.alloc
      simp only [Sem.run_bind, hzv, Result.andThen_ok, newVar, hzc, run_newRow', Sem.run_pure]
    · simp only [rel]
      exact ⟨by simp, by simp⟩
  · cases h

omit hT in
theorem box_ok (hI : Inv Im φ s B w) {t : Nat} {x z : AV} {v : Value} {s' : St} (h : boxAV s t x = some (z, s')) (hx : rel Im φ s B w x v) :
    ∃ φ' u w', (Instr.box t v).run P w = .ok u w' ∧ Step B φ s w φ' s' w' ∧ Inv Im φ' s' B w' ∧ rel Im φ' s' B w' z u ∧ Below w.heap.size w w' := by
  unfold boxAV at h
  split at h
  · rename_i ys hys
    simp only [Option.some.injEq, Prod.mk.injEq] at h
    obtain ⟨rfl, rfl⟩ := h
    obtain ⟨h1, h2⟩ := okCells_ok hys hx
    obtain ⟨hs1, hs2⟩ := hI.newBox t ys v.cells.toList h1 h2
    refine ⟨_, .pointer (some ⟨w.heap.size, 0, none⟩), _, ?_, hs1, hs2, ?_, (Below.refl _ _).alloc (Nat.le_refl _) _⟩
    · unfold Instr.box
      simp only [newVar, Sem.run_bind, run_newRow', Result.andThen_ok, Sem.run_pure, Array.toArray_toList]
    · simp only [rel]
      exact ⟨by simp, by simp⟩
  · cases h

/-- Every operation of 'evE'. -/
theorem evE_ok (hI : Inv Im φ s B w) {F : Fr} {a : Act} (hF : Holds Im φ s B w F a) {o : Oper} {x : AV} {s' : St} (h : evE T F s o.op = some (x, s')) :
    ∃ φ' v w', (execOp a.eval o).run P w = .ok (.value v) w' ∧ Step B φ s w φ' s' w' ∧ Inv Im φ' s' B w' ∧ rel Im φ' s' B w' x v ∧ (isNew o.op = true → Below w.heap.size w w') := by
  have lift : ∀ (m : Sem Value) (v : Value) (w' : World), m.run P w = .ok v w' → (do pure (Next.value (← m)) : Sem Next).run P w = .ok (.value v) w' := fun m v w' hm => by simp [hm]
  obtain ⟨dst, op, ty, pos, after, guard⟩ := o
  simp only at h
  cases op with
  | alloc t =>
    obtain ⟨φ', v, w', h1, h2, h3, h4, h5⟩ := alloc_ok hT hI h
    exact ⟨φ', v, w', lift _ _ _ h1, h2, h3, h4, fun _ => h5⟩
  | box t p =>
    obtain ⟨φ', v, w', h1, h2, h3, h4, h5⟩ := box_ok (P := P) hI h (look_ok hF p)
    exact ⟨φ', v, w', lift _ _ _ h1, h2, h3, h4, fun _ => h5⟩
  | buildSlice t len parts =>
    obtain ⟨φ', v, w', h1, h2, h3, h4, h5⟩ := buildSlice_ok hT hI hF h
    exact ⟨φ', v, w', lift _ _ _ h1, h2, h3, h4, fun _ => h5⟩
  | makeSlice t l c =>
    obtain ⟨φ', v, w', h1, h2, h3, h4, h5⟩ := makeSlice_ok hT hI h (look_ok hF l) (look_ok hF c)
    exact ⟨φ', v, w', lift _ _ _ h1, h2, h3, h4, fun _ => h5⟩
  | call c =>
    obtain ⟨callee, ⟨args⟩, ⟨ats⟩⟩ := c
    simp only [evE] at h
    split at h
    · rename_i p q t t'
      split at h
      · rename_i htt
        subst htt
        obtain ⟨φ', v, w', h1, h2, h3, h4⟩ := append_ok (ty := ty) hT hI h (look_ok hF p) (look_ok hF q)
        refine ⟨φ', v, w', ?_, h2, h3, h4, fun hn => by simp [isNew] at hn⟩
        simp [execOp, resolve, invoke, builtin, h1]
      · cases h
    · cases h
  | _ => simp [evE] at h
end
end Go.Proofs.YtfodigfliiemeaaA
