/- The abstract layer, fifth text: loads; new blocks, boxes and rows. -/
import Derived.Test.YtmcfgljdpjalfaaV4
import Derived.Laws.Cells
set_option linter.unusedVariables false
set_option linter.unusedSimpArgs false
set_option linter.constructorNameAsVariable false
set_option linter.unusedSectionVars false
namespace Go.Proofs.YtmcfgljdpjalfaaV
open Go.RowKit

def loadEl (d : TD) (s : St) (xs : List AV) (i off : Nat) : Option AV :=
  match xs[i]? with
  | some y => match okCells s y with
    | some ys => partAV d ys off
    | none => none
  | none => none
def loadAV (T : Tab) (s : St) (t : Nat) (x : AV) : Option AV :=
  match T t with
  | some d => match x with
    | .ptr b off => match s.box[b]? with
      | some p => partAV d p.2 off
      | none => none
    | .elp _ _ _ xs i off => loadEl d s xs i off
    | .elo n i off => match s.at n with
      | some p => loadEl d s p.2.2 i off
      | none => none
    | _ => none
  | none => none

section
variable {P : Program} {T : Tab} (hT : TabOk P T) {Im : Nat → Prop} {φ : Emb} {s : St} {B : Nat} {w : World}
include hT
theorem loadVar_ok {t : Nat} {d : TD} (ht : T t = some d) {xs : List AV} {off : Nat} {x : AV} (h : partAV d xs off = some x) {cs : List Value} (hr : relL Im φ s B w xs cs)
    (h1 : ∀ u ∈ cs, u.oneCell' = true) {a : Addr} {w' : World} (hc : CellsAt w' a cs) : ∃ v, (loadVar t (a.add off)).run P w' = .ok v w' ∧ rel Im φ s B w x v ∧
      v = (if d.agg = true then .agg ((cs.drop off).take d.size).toArray else (cs[off]?).getD undef) := by
  unfold partAV at h
  split at h
  · rename_i ha
    split at h
    · rename_i hl
      injection h with h
      subst h
      refine ⟨.agg ((cs.drop off).take d.size).toArray, ?_, ?_, by rw [if_pos ha]⟩
      · unfold loadVar
        rw [Sem.run_bind, run_isAgg hT ht, ha]
        simp only [Result.andThen_ok, if_true]
        rw [Sem.run_bind, run_size hT ht]
        simp only [Result.andThen_ok]
        have hlen : ((cs.drop off).take d.size).length = d.size := by have := relL_len _ _ hr; simp; omega
        have := run_loadCells_list (P := P) (w := w') (a.add off) ((cs.drop off).take d.size) (fun j v hj => by
          rw [Addr.add_add']
          apply hc
          rw [List.getElem?_take] at hj
          split at hj
          · rw [List.getElem?_drop] at hj
            exact hj
          · cases hj)
        rw [hlen] at this
        rw [Sem.run_bind, this]
        rfl
      · simp only [rel]
        exact ⟨_, rfl, relL_take _ _ _ (relL_drop _ _ _ hr), fun u hu => h1 u (List.mem_of_mem_drop (List.mem_of_mem_take hu))⟩
    · cases h
  · rename_i ha
    obtain ⟨v, hv, hx⟩ := relL_get _ _ hr _ _ h
    refine ⟨v, ?_, hx, by rw [if_neg ha, hv]; rfl⟩
    unfold loadVar
    rw [Sem.run_bind, run_isAgg hT ht]
    simp only [Result.andThen_ok, if_neg ha]
    simp [hc off v hv]

omit hT in
theorem Inv.boxAt (hI : Inv Im φ s B w) {b : Nat} {p : Nat × List AV} (hb : s.box[b]? = some p) : ∃ vs : List Value, w.heap[φ.bx b]? = some (.cells vs.toArray p.1 (0, 0)) ∧ relL Im φ s B w p.2 vs ∧ (∀ u ∈ vs, u.oneCell' = true) ∧ φ.bx b < w.heap.size ∧ CellsAt w ⟨φ.bx b, 0, none⟩ vs := by
  obtain ⟨vs, h1, h2, h3⟩ := hI.cells b p.1 p.2 hb
  refine ⟨vs, h1, h2, h3, (Array.getElem?_eq_some_iff.1 h1).1, fun j u hj => ?_⟩
  rw [Addr.add_lit', Nat.zero_add]
  simp [World.cell?, h1, hj]

omit hT in
theorem Inv.rowCells (hI : Inv Im φ s B w) {n e sz : Nat} {xs : List AV} (h : s.at n = some (e, sz, xs)) (h0 : 0 < sz) {g : Nat} (hg : φ.rw n = some g) : ∃ cs, relF Im φ s B w sz xs cs ∧ CellsAt w ⟨g, 0, none⟩ cs ∧ g < w.heap.size := by
  obtain ⟨_, h1 | ⟨g', cap, cur, cs, h1, h2, h3, h4, h5, h6, h7⟩⟩ := (hI.rows n e sz xs h).pos h0
  · rw [h1.1] at hg; cases hg
  · rw [h1] at hg
    injection hg with hg
    subst hg
    refine ⟨cs, h6, fun j u hj => ?_, (Array.getElem?_eq_some_iff.1 h2).1⟩
    rw [Addr.add_lit', Nat.zero_add]
    rw [← h7, List.getElem?_take] at hj
    split at hj
    · simp only [Array.getElem?_toList] at hj
      simp [World.cell?, h2, hj]
    · cases hj

theorem loadEl_ok {t : Nat} {d : TD} (hd : T t = some d) {sz : Nat} {xs : List AV} {cs : List Value} (hF : relF Im φ s B w sz xs cs) {a : Addr} (hc : CellsAt w a cs) (hlt : a.block < w.heap.size) {i off : Nat} {z : AV} (h : loadEl d s xs i off = some z) :
    ∃ u, (∀ w', Below w.heap.size w w' → (Instr.loadAt t (.pointer (some (a.add (i * sz + off))))).run P w' = .ok u w') ∧ rel Im φ s B w z u := by
  unfold loadEl at h
  split at h
  · rename_i y hy
    split at h
    · rename_i ys hys
      obtain ⟨vy, g1, g2, g3, g4⟩ := relF_get _ _ hF _ _ hy
      obtain ⟨k1, k2⟩ := okCells_ok hys g3
      have hcy : CellsAt w (a.add (i * sz)) vy.cells.toList := by
        intro j u hj
        rw [Addr.add_add']
        exact hc _ _ (g4 j u (by simpa using hj))
      have key : ∀ w', Below w.heap.size w w' → ∃ u, (loadVar t ((a.add (i * sz)).add off)).run P w' = .ok u w' ∧ rel Im φ s B w z u ∧ u = _ := fun w' hb =>
        loadVar_ok hT hd h k1 k2 (hcy.of_block (w' := w') (hb.block _ (by rw [Addr.add_block']; exact hlt)))
      obtain ⟨u, _, hu, he⟩ := key w (Below.refl _ _)
      refine ⟨u, fun w' hb => ?_, hu⟩
      obtain ⟨u', hu', _, he'⟩ := key w' hb
      rw [he, ← he', ← hu', Addr.add_add']
      rfl
    · cases h
  · cases h

theorem loadAV_ok (hI : Inv Im φ s B w) {t : Nat} {x z : AV} {v : Value} (h : loadAV T s t x = some z) (hx : rel Im φ s B w x v) :
    ∃ u, (∀ w', Below w.heap.size w w' → (Instr.loadAt t v).run P w' = .ok u w') ∧ rel Im φ s B w z u := by
  unfold loadAV at h
  split at h
  · rename_i d hd
    split at h
    · rename_i b off
      split at h
      · rename_i p hp
        simp only [rel] at hx
        obtain ⟨_, rfl⟩ := hx
        obtain ⟨vs, h1, h2, h3, h4, h5⟩ := hI.boxAt hp
        have key : ∀ w', Below w.heap.size w w' → ∃ u, (loadVar t ((⟨φ.bx b, 0, none⟩ : Addr).add off)).run P w' = .ok u w' ∧ rel Im φ s B w z u ∧ u = _ := fun w' hb =>
          loadVar_ok hT hd h h2 h3 (h5.of_block (w' := w') (hb.block _ h4))
        obtain ⟨u, _, hu, he⟩ := key w (Below.refl _ _)
        refine ⟨u, fun w' hb => ?_, hu⟩
        obtain ⟨u', hu', _, he'⟩ := key w' hb
        rw [he, ← he', ← hu', Addr.add_lit', Nat.zero_add]
        rfl
      · cases h
    · rename_i e sz tk xs i off
      simp only [rel] at hx
      obtain ⟨cs, sv, a, m, c, hF, hm, rfl, hi, rfl⟩ := hx
      obtain ⟨a', ha, hlt, hc⟩ := hm.at_ (by omega)
      injection ha with ha
      subst ha
      exact loadEl_ok hT hd hF hc hlt h
    · rename_i n i off
      split at h
      · rename_i p hp
        obtain ⟨e, sz, xs⟩ := p
        simp only [rel] at hx
        obtain ⟨h0, hi, g, hg, rfl⟩ := hx.2 _ _ _ hp
        obtain ⟨cs, hF, hc, hlt⟩ := hI.rowCells hp h0 hg
        have := loadEl_ok hT hd hF hc hlt h
        rwa [Addr.add_lit', Nat.zero_add] at this
      · cases h
    · cases h
  · cases h
end

/-! ### New blocks -/
abbrev RowC := Nat × Nat × List AV
def kill (K : Option Nat) (l : List (Option RowC)) : List (Option RowC) := match K with | some n => l.set n none | none => l
def St.new (s : St) (K : Option Nat) (r : RowC) : St := ⟨s.box, kill K s.row ++ [some r]⟩
theorem kill_len (K : Option Nat) (l : List (Option RowC)) : (kill K l).length = l.length := by cases K <;> simp [kill]
theorem at_new (s : St) (K : Option Nat) (r : RowC) (n : Nat) : (s.new K r).at n = if n = s.row.length then some r else if K = some n then none else s.at n := by
  unfold St.at St.new
  simp only
  rcases Nat.lt_trichotomy n s.row.length with h | h | h
  · rw [List.getElem?_append_left (by rw [kill_len]; exact h), if_neg (by omega)]
    cases K with
    | none => simp [kill]
    | some k =>
      simp only [kill, List.getElem?_set]
      by_cases hk : k = n
      · subst hk
        simp [h]
      · rw [if_neg hk]
        simp [hk]
  · subst h
    rw [List.getElem?_append_right (by rw [kill_len]; exact Nat.le_refl _)]
    simp [kill_len]
  · rw [List.getElem?_append_right (by rw [kill_len]; omega), if_neg (by omega)]
    have : n - (kill K s.row).length ≠ 0 := by rw [kill_len]; omega
    simp [this, List.getElem?_eq_none (Nat.le_of_lt h)]
theorem live_new (s : St) (K : Option Nat) (r : RowC) (n : Nat) : (s.new K r).live n = true ↔ (n = s.row.length ∨ (n < s.row.length ∧ s.live n = true ∧ K ≠ some n)) := by
  unfold St.live
  rw [at_new]
  by_cases h : n = s.row.length
  · simp [h]
  · rw [if_neg h]
    by_cases hk : K = some n
    · simp [h, hk]
    · rw [if_neg hk]
      simp only [h, false_or]
      constructor
      · intro hl
        obtain ⟨e, sz, xs, ha⟩ := live_at hl
        exact ⟨at_lt ha, hl, hk⟩
      · exact fun h => h.2.1
theorem live_lt {s : St} {n : Nat} (h : s.live n = true) : n < s.row.length := by
  obtain ⟨e, sz, xs, ha⟩ := live_at h
  exact at_lt ha

section
variable {Im : Nat → Prop} {φ : Emb} {s : St} {B : Nat} {w : World}
theorem RowOk.step {φ' : Emb} {s' : St} {w1 : World} {blk : Option Nat} {e sz : Nat} {xs : List AV} (hs : Step B φ s w φ' s' w1) (h : RowOk Im φ s B w w1 blk e sz xs) : RowOk Im φ' s' B w1 w1 blk e sz xs := by
  rcases h with ⟨h0, h1 | ⟨g, cap, cur, cs, h1, h2, h3, h4, h5, h6, h7⟩⟩ | ⟨h0, g, ms, clock, h1, h2, hbo, h3⟩
  · exact .inl ⟨h0, .inl h1⟩
  · exact .inl ⟨h0, .inr ⟨g, cap, cur, cs, h1, h2, h3, h4, h5, relF_step hs _ _ _ h6, h7⟩⟩
  · exact .inr ⟨h0, g, ms, clock, h1, h2, hbo, relL_step hs _ _ h3⟩
theorem RowOk.later {w1 : World} {blk : Option Nat} {e sz : Nat} {xs : List AV} (h : RowOk Im φ s B w w blk e sz xs) (hb : ∀ g, blk = some g → w1.heap[g]? = w.heap[g]?) : RowOk Im φ s B w w1 blk e sz xs := by
  rcases h with ⟨h0, h1 | ⟨g, cap, cur, cs, h1, h2, h3, h4, h5, h6, h7⟩⟩ | ⟨h0, g, ms, clock, h1, h2, hbo, h3⟩
  · exact .inl ⟨h0, .inl h1⟩
  · exact .inl ⟨h0, .inr ⟨g, cap, cur, cs, h1, by rw [hb g h1]; exact h2, h3, h4, h5, h6, h7⟩⟩
  · exact .inr ⟨h0, g, ms, clock, h1, by rw [hb g h1]; exact h2, hbo, h3⟩
theorem RowAt.later {φ' : Emb} {w1 : World} {n e sz cap : Nat} (h : RowAt φ w n e sz cap) (hr : φ'.rw n = φ.rw n) (hb : ∀ g, φ.rw n = some g → w1.heap[g]? = w.heap[g]?) : RowAt φ' w1 n e sz cap := by
  obtain ⟨g, cur, h1, h2, h3⟩ := h
  exact ⟨g, cur, hr.trans h1, by rw [hb g h1]; exact h2, h3⟩

/-- A row that is made or grown: row K's block may be written, K is spent; the new row's block is it, or a new one. -/
theorem Inv.row (hI : Inv Im φ s B w) (K : Option Nat) (row : Option Nat) (hrow : row = none ∨ ∃ n, K = some n ∧ s.live n = true ∧ φ.rw n = row) {w1 : World} (hg : w.grownBy w1 row) (hdr : w.drawn ≤ w1.drawn) (blk : Option Nat)
    (hblk : ∀ g, blk = some g → g < w1.heap.size ∧ (some g = row ∨ w.heap.size ≤ g)) {e sz : Nat} {xs : List AV} (hnew : RowOk Im φ s B w w1 blk e sz xs) :
    Step B φ s w { φ with rw := fun m => if m = s.row.length then blk else φ.rw m } (s.new K (e, sz, xs)) w1 ∧ Inv Im { φ with rw := fun m => if m = s.row.length then blk else φ.rw m } (s.new K (e, sz, xs)) B w1 := by
  have hlen : (s.new K (e, sz, xs)).row.length = s.row.length + 1 := by simp [St.new, kill_len]
  have hbox : (s.new K (e, sz, xs)).box = s.box := rfl
  have hrowM : ∀ g, row = some g → Mut φ s g := by
    intro g hg'
    rcases hrow with h | ⟨n, _, h2, h3⟩
    · rw [h] at hg'; cases hg'
    · exact .inr ⟨n, h2, h3.trans hg'⟩
  have hB : ∀ k, row = some k → B ≤ k := fun k hk => (hI.bnd k (hrowM k hk)).1
  have keep : ∀ n, s.live n = true → K ≠ some n → ∀ g, φ.rw n = some g → w1.heap[g]? = w.heap[g]? := by
    intro n h2 h3 g hg'
    refine hg.block g (hI.bnd g (.inr ⟨n, h2, hg'⟩)).2 ?_
    intro he
    rcases hrow with h | ⟨m, k1, k2, k3⟩
    · rw [h] at he; cases he
    · exact h3 (by rw [k1, hI.rwinj m n g k2 h2 (k3.trans he.symm) hg'])
  have hmut : ∀ g, Mut { φ with rw := fun m => if m = s.row.length then blk else φ.rw m } (s.new K (e, sz, xs)) g → Mut φ s g ∨ (blk = some g ∧ w.heap.size ≤ g) := by
    rintro g (⟨b, hb, he⟩ | ⟨n, hn, he⟩)
    · exact .inl (.inl ⟨b, hb, he⟩)
    · rcases (live_new s K _ n).1 hn with rfl | ⟨h1, h2, h3⟩
      · simp only [if_pos] at he
        rcases (hblk g he).2 with h | h
        · exact .inl (hrowM g h.symm)
        · exact .inr ⟨he, h⟩
      · simp only [if_neg (Nat.ne_of_lt h1)] at he
        exact .inl (.inr ⟨n, h2, he⟩)
  have hstep : Step B φ s w { φ with rw := fun m => if m = s.row.length then blk else φ.rw m } (s.new K (e, sz, xs)) w1 := by
    refine ⟨by omega, Nat.le_refl _, fun _ _ => rfl, fun n e' sz' xs' hn hl => ?_, fun g hg' hm => ⟨?_, fun h => ?_⟩, (Below.refl B w).grown hg hI.hB hB, hdr⟩
    · rw [at_new, if_neg (Nat.ne_of_lt hn)] at hl
      split at hl
      · cases hl
      · rename_i hk
        exact ⟨⟨xs', hl, fun _ => rfl⟩, if_neg (Nat.ne_of_lt hn), fun cap hc => hc.later (if_neg (Nat.ne_of_lt hn)) (keep n (at_live hl) hk)⟩
    · refine hg.block g hg' fun he => hm (hrowM g he.symm)
    · rcases hmut g h with h | ⟨_, h⟩
      · exact hm h
      · omega
  refine ⟨hstep, Nat.le_trans hI.hB hg.size, fun g hm => ?_, hI.bxinj, fun m n g hm hn h1 h2 => ?_, fun b n hb hn he => ?_, fun b ty cs hb => ?_, fun n e' sz' xs' hl => ?_⟩
  · rcases hm with ⟨b, hb, he⟩ | ⟨n, hn, he⟩
    · obtain ⟨h1, h2⟩ := hI.bnd g (.inl ⟨b, hb, he⟩)
      exact ⟨h1, Nat.lt_of_lt_of_le h2 hg.size⟩
    · rcases (live_new s K _ n).1 hn with rfl | ⟨h1, h2, h3⟩
      · simp only [if_pos] at he
        obtain ⟨h1, h2⟩ := hblk g he
        refine ⟨?_, h1⟩
        rcases h2 with h2 | h2
        · exact hB g h2.symm
        · exact Nat.le_trans hI.hB h2
      · simp only [if_neg (Nat.ne_of_lt h1)] at he
        obtain ⟨h4, h5⟩ := hI.bnd g (.inr ⟨n, h2, he⟩)
        exact ⟨h4, Nat.lt_of_lt_of_le h5 hg.size⟩
  · have key : ∀ m, (s.new K (e, sz, xs)).live m = true → m ≠ s.row.length → s.live m = true ∧ K ≠ some m := by
      intro m hm hne
      rcases (live_new s K _ m).1 hm with h | ⟨_, h, h'⟩
      · exact absurd h hne
      · exact ⟨h, h'⟩
    have clash : ∀ m, (s.new K (e, sz, xs)).live m = true → m ≠ s.row.length → φ.rw m = some g → blk = some g → False := by
      intro m hm hne hg1 hb1
      obtain ⟨k1, k2⟩ := key m hm hne
      rcases (hblk g hb1).2 with h | h
      · rcases hrow with h' | ⟨m', j1, j2, j3⟩
        · rw [h'] at h; cases h
        · exact k2 (by rw [j1, hI.rwinj m' m g j2 k1 (j3.trans h.symm) hg1])
      · have := (hI.bnd g (.inr ⟨m, k1, hg1⟩)).2
        omega
    by_cases e1 : m = s.row.length
    · by_cases e2 : n = s.row.length
      · rw [e1, e2]
      · simp only [if_pos e1] at h1
        simp only [if_neg e2] at h2
        exact (clash n hn e2 h2 h1).elim
    · by_cases e2 : n = s.row.length
      · simp only [if_neg e1] at h1
        simp only [if_pos e2] at h2
        exact (clash m hm e1 h1 h2).elim
      · simp only [if_neg e1] at h1
        simp only [if_neg e2] at h2
        exact hI.rwinj m n g (key m hm e1).1 (key n hn e2).1 h1 h2
  · rcases (live_new s K _ n).1 hn with rfl | ⟨h1, h2, h3⟩
    · simp only [if_pos] at he
      rcases (hblk _ he).2 with h | h
      · rcases hrow with h' | ⟨m', j1, j2, j3⟩
        · rw [h'] at h; cases h
        · exact hI.bxrw b m' hb j2 (j3.trans h.symm)
      · have := (hI.bnd _ (.inl ⟨b, hb, rfl⟩)).2
        omega
    · simp only [if_neg (Nat.ne_of_lt h1)] at he
      exact hI.bxrw b n hb h2 he
  · obtain ⟨vs, h1, h2, h3⟩ := hI.cells b ty cs hb
    refine ⟨vs, ?_, relL_step hstep _ _ h2, h3⟩
    have hblt : b < s.box.length := by
      rcases Nat.lt_or_ge b s.box.length with h | h
      · exact h
      · rw [hbox, List.getElem?_eq_none h] at hb; cases hb
    rw [hg.block _ (hI.bnd _ (.inl ⟨b, hblt, rfl⟩)).2 ?_]
    · exact h1
    · intro he
      rcases hrow with h' | ⟨m', j1, j2, j3⟩
      · rw [h'] at he; cases he
      · exact hI.bxrw b m' hblt j2 (j3.trans he.symm)
  · rw [at_new] at hl
    split at hl
    · rename_i hn
      simp only [Option.some.injEq, Prod.mk.injEq] at hl
      obtain ⟨rfl, rfl, rfl⟩ := hl
      simp only [if_pos hn]
      exact hnew.step hstep
    · rename_i hn
      split at hl
      · cases hl
      · rename_i hk
        simp only [if_neg hn]
        exact RowOk.step hstep (RowOk.later (hI.rows n e' sz' xs' hl) (keep n (at_live hl) hk))

/-- A new box. -/
theorem Inv.newBox (hI : Inv Im φ s B w) (ty : Nat) (cs : List AV) (vs : List Value) (hr : relL Im φ s B w cs vs) (h1 : ∀ u ∈ vs, u.oneCell' = true) :
    Step B φ s w { φ with bx := fun b => if b = s.box.length then w.heap.size else φ.bx b } ⟨s.box ++ [(ty, cs)], s.row⟩ (w.alloc (.cells vs.toArray ty)) ∧
    Inv Im { φ with bx := fun b => if b = s.box.length then w.heap.size else φ.bx b } ⟨s.box ++ [(ty, cs)], s.row⟩ B (w.alloc (.cells vs.toArray ty)) := by
  have hlive : ∀ n, (St.mk (s.box ++ [(ty, cs)]) s.row).live n = s.live n := fun _ => rfl
  have hat : ∀ n, (St.mk (s.box ++ [(ty, cs)]) s.row).at n = s.at n := fun _ => rfl
  have hmut : ∀ g, Mut { φ with bx := fun b => if b = s.box.length then w.heap.size else φ.bx b } ⟨s.box ++ [(ty, cs)], s.row⟩ g → Mut φ s g ∨ g = w.heap.size := by
    rintro g (⟨b, hb, he⟩ | ⟨n, hn, he⟩)
    · by_cases e : b = s.box.length
      · simp only [if_pos e] at he
        exact .inr he.symm
      · simp only [if_neg e] at he
        simp at hb
        exact .inl (.inl ⟨b, by omega, he⟩)
    · exact .inl (.inr ⟨n, hn, he⟩)
  have hold : ∀ g, g < w.heap.size → (w.alloc (.cells vs.toArray ty)).heap[g]? = w.heap[g]? := fun g hg => Below.heap_alloc w _ g hg
  have hsz : (w.alloc (.cells vs.toArray ty)).heap.size = w.heap.size + 1 := by simp
  have hstep : Step B φ s w { φ with bx := fun b => if b = s.box.length then w.heap.size else φ.bx b } ⟨s.box ++ [(ty, cs)], s.row⟩ (w.alloc (.cells vs.toArray ty)) := by
    refine ⟨Nat.le_refl _, by simp, fun b hb => if_neg (Nat.ne_of_lt hb), fun n e sz xs' hn hl => ⟨⟨xs', hl, fun _ => rfl⟩, rfl, fun cap hc => RowAt.later hc rfl fun g hg => hold g (hI.bnd g (.inr ⟨n, at_live hl, hg⟩)).2⟩, fun g hg hm => ⟨hold g hg, fun h => ?_⟩, (Below.refl B w).alloc hI.hB _, Nat.le_refl _⟩
    rcases hmut g h with h | h
    · exact hm h
    · omega
  refine ⟨hstep, by rw [hsz]; have := hI.hB; omega, fun g hm => ?_, fun b b' hb hb' he => ?_, hI.rwinj, fun b n hb hn he => ?_, fun b ty' cs' hb => ?_, fun n e sz xs hl => ?_⟩
  · rw [hsz]
    rcases hmut g hm with h | h
    · obtain ⟨h1, h2⟩ := hI.bnd g h
      exact ⟨h1, by omega⟩
    · have := hI.hB
      exact ⟨by omega, by omega⟩
  · simp at hb hb'
    have far : ∀ c, c < s.box.length → φ.bx c < w.heap.size := fun c hc => (hI.bnd _ (.inl ⟨c, hc, rfl⟩)).2
    by_cases e1 : b = s.box.length
    · by_cases e2 : b' = s.box.length
      · omega
      · simp only [if_pos e1, if_neg e2] at he
        have := far b' (by omega)
        omega
    · by_cases e2 : b' = s.box.length
      · simp only [if_neg e1, if_pos e2] at he
        have := far b (by omega)
        omega
      · simp only [if_neg e1, if_neg e2] at he
        exact hI.bxinj b b' (by omega) (by omega) he
  · simp at hb
    by_cases e1 : b = s.box.length
    · simp only [if_pos e1] at he
      have := (hI.bnd _ (.inr ⟨n, hn, he⟩)).2
      omega
    · simp only [if_neg e1] at he
      exact hI.bxrw b n (by omega) hn he
  · by_cases e1 : b = s.box.length
    · subst e1
      simp only [List.getElem?_append_right (Nat.le_refl _), Nat.sub_self, List.getElem?_cons_zero, Option.some.injEq, Prod.mk.injEq] at hb
      obtain ⟨rfl, rfl⟩ := hb
      refine ⟨vs, ?_, relL_step hstep _ _ hr, h1⟩
      simp only [if_pos]
      exact heap_alloc_new w _
    · have hlt : b < s.box.length := by
        rcases Nat.lt_or_ge b s.box.length with h | h
        · exact h
        · rw [List.getElem?_append_right h] at hb
          have : b - s.box.length ≠ 0 := by omega
          simp [this] at hb
      rw [List.getElem?_append_left hlt] at hb
      obtain ⟨us, k1, k2, k3⟩ := hI.cells b ty' cs' hb
      refine ⟨us, ?_, relL_step hstep _ _ k2, k3⟩
      simp only [if_neg e1]
      rw [hold _ (hI.bnd _ (.inl ⟨b, hlt, rfl⟩)).2]
      exact k1
  · exact RowOk.step hstep (RowOk.later (hI.rows n e sz xs hl) fun g hg => hold g (hI.bnd g (.inr ⟨n, at_live hl, hg⟩)).2)
end
end Go.Proofs.YtmcfgljdpjalfaaV
