/- The abstract layer, fifth text: loads; new blocks, boxes and rows. -/
import Derived.Test.YtfodigfliiemeaaA4
import Derived.Laws.Cells
namespace Go.Proofs.YtfodigfliiemeaaA
open Go.RowKit

def loadAV (T : Tab) (s : St) (t : Nat) (x : AV) : Option AV :=
  match T t with
  | some d => match x with
    | .ptr b off => match s.box[b]? with
      | some p => partAV d p.2 off
      | none => none
    | .elp _ _ tk xs i off => if tk.ok s = true then
        (match xs[i]? with
        | some y => match okCells s y with
          | some ys => partAV d ys off
          | none => none
        | none => none) else none
    | _ => none
  | none => none

section
variable {P : Program} {T : Tab} (hT : TabOk P T) {Im : Nat → Prop} {φ : Emb} {s : St} {B : Nat} {w : World}
include hT
theorem loadVar_ok {t : Nat} {d : TD} (ht : T t = some d) {xs : List AV} {off : Nat} {x : AV} (h : partAV d xs off = some x) {cs : List Value} (hr : relL Im φ s B w xs cs)
    (h1 : ∀ u ∈ cs, u.oneCell' = true) {a : Addr} {w' : World} (hc : CellsAt w' a cs) : ∃ v, (loadVar t (a.add off)).run P w' = .ok v w' ∧ rel Im φ s B w x v ∧
      v = (if d.agg = true then .agg ((cs.drop off).take d.size).toArray else (cs[off]?).getD undef) := by
  unfold partAV at h
  split at h
  · rename_i ha
    split at h
    · rename_i hl
      injection h with h
      subst h
      refine ⟨.agg ((cs.drop off).take d.size).toArray, ?_, ?_, by rw [if_pos ha]⟩
      · unfold loadVar
        rw [Sem.run_bind, run_isAgg hT ht, ha]
        simp only [Result.andThen_ok, if_true]
        rw [Sem.run_bind, run_size hT ht]
        simp only [Result.andThen_ok]
        have hlen : ((cs.drop off).take d.size).length = d.size := by have := relL_len _ _ hr; simp; omega
        have := run_loadCells_list (P := P) (w := w') (a.add off) ((cs.drop off).take d.size) (fun j v hj => by
          rw [Addr.add_add']
          apply hc
          rw [List.getElem?_take] at hj
          split at hj
          · rw [List.getElem?_drop] at hj
            exact hj
          · cases hj)
        rw [hlen] at this
        rw [Sem.run_bind, this]
        rfl
      · simp only [rel]
        exact ⟨_, rfl, relL_take _ _ _ (relL_drop _ _ _ hr), fun u hu => h1 u (List.mem_of_mem_drop (List.mem_of_mem_take hu))⟩
    · cases h
  · rename_i ha
    obtain ⟨v, hv, hx⟩ := relL_get _ _ hr _ _ h
    refine ⟨v, ?_, hx, by rw [if_neg ha, hv]; rfl⟩
    unfold loadVar
    rw [Sem.run_bind, run_isAgg hT ht]
    simp only [Result.andThen_ok, if_neg ha]
    simp [hc off v hv]

omit hT in
theorem Inv.boxAt (hI : Inv Im φ s B w) {b : Nat} {p : Nat × List AV} (hb : s.box[b]? = some p) : ∃ vs : List Value, w.heap[φ.bx b]? = some (.cells vs.toArray p.1 (0, 0)) ∧ relL Im φ s B w p.2 vs ∧ (∀ u ∈ vs, u.oneCell' = true) ∧ φ.bx b < w.heap.size ∧ CellsAt w ⟨φ.bx b, 0, none⟩ vs := by
  obtain ⟨vs, h1, h2, h3⟩ := hI.cells b p.1 p.2 hb
  refine ⟨vs, h1, h2, h3, (Array.getElem?_eq_some_iff.1 h1).1, fun j u hj => ?_⟩
  rw [Addr.add_lit', Nat.zero_add]
  simp [World.cell?, h1, hj]

theorem loadAV_ok (hI : Inv Im φ s B w) {t : Nat} {x z : AV} {v : Value} (h : loadAV T s t x = some z) (hx : rel Im φ s B w x v) :
    ∃ u, (∀ w', Below w.heap.size w w' → (Instr.loadAt t v).run P w' = .ok u w') ∧ rel Im φ s B w z u := by
  unfold loadAV at h
  split at h
  · rename_i d hd
    split at h
    · rename_i b off
      split at h
      · rename_i p hp
        simp only [rel] at hx
        obtain ⟨_, rfl⟩ := hx
        obtain ⟨vs, h1, h2, h3, h4, h5⟩ := hI.boxAt hp
        have key : ∀ w', Below w.heap.size w w' → ∃ u, (loadVar t ((⟨φ.bx b, 0, none⟩ : Addr).add off)).run P w' = .ok u w' ∧ rel Im φ s B w z u ∧ u = _ := fun w' hb =>
          loadVar_ok hT hd h h2 h3 (h5.of_block (w' := w') (hb.block _ h4))
        obtain ⟨u, _, hu, he⟩ := key w (Below.refl _ _)
        refine ⟨u, fun w' hb => ?_, hu⟩
        obtain ⟨u', hu', _, he'⟩ := key w' hb
        rw [he, ← he', ← hu', Addr.add_lit', Nat.zero_add]
        rfl
      · cases h
    · rename_i e sz tk xs i off
      split at h
      · rename_i hk
        split at h
        · rename_i y hy
          split at h
          · rename_i ys hys
            simp only [rel] at hx
            obtain ⟨cs, sv, a, m, c, hF, hm, rfl, hi, rfl⟩ := hx
            obtain ⟨vy, g1, g2, g3, g4⟩ := relF_get _ _ hF _ _ hy
            obtain ⟨k1, k2⟩ := okCells_ok hys g3
            obtain ⟨a', ha, hlt, hc⟩ := hm.at_ hk (by omega)
            injection ha with ha
            subst ha
            have hcy : CellsAt w (a.add (i * sz)) vy.cells.toList := by
              intro j u hj
              rw [Addr.add_add']
              exact hc _ _ (g4 j u (by simpa using hj))
            have key : ∀ w', Below w.heap.size w w' → ∃ u, (loadVar t ((a.add (i * sz)).add off)).run P w' = .ok u w' ∧ rel Im φ s B w z u ∧ u = _ := fun w' hb =>
              loadVar_ok hT hd h k1 k2 (hcy.of_block (w' := w') (hb.block _ (by rw [Addr.add_block']; exact hlt)))
            obtain ⟨u, _, hu, he⟩ := key w (Below.refl _ _)
            refine ⟨u, fun w' hb => ?_, hu⟩
            obtain ⟨u', hu', _, he'⟩ := key w' hb
            rw [he, ← he', ← hu', Addr.add_add']
            rfl
          · cases h
        · cases h
      · cases h
    · cases h
  · cases h
end

/-! ### New blocks -/
def kill (K : Option Nat) (l : List Bool) : List Bool := match K with | some n => l.set n false | none => l
def St.new (s : St) (K : Option Nat) : St := ⟨s.box, kill K s.tok ++ [true]⟩
theorem kill_len (K : Option Nat) (l : List Bool) : (kill K l).length = l.length := by cases K <;> simp [kill]
theorem live_new (s : St) (K : Option Nat) (n : Nat) : (s.new K).live n = true ↔ (n = s.tok.length ∨ (n < s.tok.length ∧ s.live n = true ∧ K ≠ some n)) := by
  unfold St.live St.new
  simp only [List.getD_eq_getElem?_getD]
  rcases Nat.lt_trichotomy n s.tok.length with h | h | h
  · rw [List.getElem?_append_left (by rw [kill_len]; exact h)]
    cases K with
    | none => simp [kill, h]; omega
    | some k =>
      simp only [kill, List.getElem?_set]
      by_cases hk : k = n
      · subst hk
        simp [h]
        omega
      · rw [if_neg hk]
        simp [hk, h]
        omega
  · subst h
    rw [List.getElem?_append_right (by rw [kill_len]; exact Nat.le_refl _)]
    simp [kill_len]
  · rw [List.getElem?_append_right (by rw [kill_len]; omega)]
    have : n - (kill K s.tok).length ≠ 0 := by rw [kill_len]; omega
    simp [this]
    omega
theorem live_lt {s : St} {n : Nat} (h : s.live n = true) : n < s.tok.length := by
  unfold St.live at h
  rcases Nat.lt_or_ge n s.tok.length with h' | h'
  · exact h'
  · simp [List.getElem?_eq_none h'] at h

section
variable {Im : Nat → Prop} {φ : Emb} {s : St} {B : Nat} {w : World}
/-- A row that is made or grown: token K's row may be written, K is spent; the new token's row is it, or a new block. -/
theorem Inv.row (hI : Inv Im φ s B w) (K : Option Nat) (row : Option Nat) (hrow : row = none ∨ ∃ n, K = some n ∧ s.live n = true ∧ φ.tk n = row) {w1 : World} (hg : w.grownBy w1 row) (blk : Option Nat)
    (hblk : ∀ g, blk = some g → g < w1.heap.size ∧ (some g = row ∨ w.heap.size ≤ g)) :
    Step B φ s w { φ with tk := fun m => if m = s.tok.length then blk else φ.tk m } (s.new K) w1 ∧ Inv Im { φ with tk := fun m => if m = s.tok.length then blk else φ.tk m } (s.new K) B w1 := by
  have hlen : (s.new K).tok.length = s.tok.length + 1 := by simp [St.new, kill_len]
  have hbox : (s.new K).box = s.box := rfl
  have hrowM : ∀ g, row = some g → Mut φ s g := by
    intro g hg'
    rcases hrow with h | ⟨n, _, h2, h3⟩
    · rw [h] at hg'; cases hg'
    · exact .inr ⟨n, h2, h3.trans hg'⟩
  have hB : ∀ k, row = some k → B ≤ k := fun k hk => (hI.bnd k (hrowM k hk)).1
  have hmut : ∀ g, Mut { φ with tk := fun m => if m = s.tok.length then blk else φ.tk m } (s.new K) g → Mut φ s g ∨ (blk = some g ∧ w.heap.size ≤ g) := by
    rintro g (⟨b, hb, he⟩ | ⟨n, hn, he⟩)
    · exact .inl (.inl ⟨b, hb, he⟩)
    · rcases (live_new s K n).1 hn with rfl | ⟨h1, h2, h3⟩
      · simp only [if_pos] at he
        rcases (hblk g he).2 with h | h
        · exact .inl (hrowM g h.symm)
        · exact .inr ⟨he, h⟩
      · simp only [if_neg (Nat.ne_of_lt h1)] at he
        exact .inl (.inr ⟨n, h2, he⟩)
  have hstep : Step B φ s w { φ with tk := fun m => if m = s.tok.length then blk else φ.tk m } (s.new K) w1 := by
    refine ⟨by omega, Nat.le_refl _, fun _ _ => rfl, fun n hn hl => ?_, fun g hg' hm => ⟨?_, fun h => ?_⟩, (Below.refl B w).grown hg hI.hB hB⟩
    · rcases (live_new s K n).1 hl with h | ⟨h1, h2, h3⟩
      · omega
      · refine ⟨h2, if_neg (Nat.ne_of_lt h1), fun g hg' => hg.block g (hI.bnd g (.inr ⟨n, h2, hg'⟩)).2 ?_⟩
        intro he
        rcases hrow with h | ⟨m, k1, k2, k3⟩
        · rw [h] at he; cases he
        · exact h3 (by rw [k1, hI.tkinj m n g k2 h2 (k3.trans he.symm) hg'])
    · refine hg.block g hg' fun he => hm (hrowM g he.symm)
    · rcases hmut g h with h | ⟨_, h⟩
      · exact hm h
      · omega
  refine ⟨hstep, Nat.le_trans hI.hB hg.size, fun g hm => ?_, hI.bxinj, fun m n g hm hn h1 h2 => ?_, fun b n hb hn he => ?_, fun b ty cs hb => ?_⟩
  · rcases hm with ⟨b, hb, he⟩ | ⟨n, hn, he⟩
    · obtain ⟨h1, h2⟩ := hI.bnd g (.inl ⟨b, hb, he⟩)
      exact ⟨h1, Nat.lt_of_lt_of_le h2 hg.size⟩
    · rcases (live_new s K n).1 hn with rfl | ⟨h1, h2, h3⟩
      · simp only [if_pos] at he
        obtain ⟨h1, h2⟩ := hblk g he
        refine ⟨?_, h1⟩
        rcases h2 with h2 | h2
        · exact hB g h2.symm
        · exact Nat.le_trans hI.hB h2
      · simp only [if_neg (Nat.ne_of_lt h1)] at he
        obtain ⟨h4, h5⟩ := hI.bnd g (.inr ⟨n, h2, he⟩)
        exact ⟨h4, Nat.lt_of_lt_of_le h5 hg.size⟩
  · have key : ∀ m, (s.new K).live m = true → m ≠ s.tok.length → s.live m = true ∧ K ≠ some m := by
      intro m hm hne
      rcases (live_new s K m).1 hm with h | ⟨_, h, h'⟩
      · exact absurd h hne
      · exact ⟨h, h'⟩
    have clash : ∀ m, (s.new K).live m = true → m ≠ s.tok.length → φ.tk m = some g → blk = some g → False := by
      intro m hm hne hg1 hb1
      obtain ⟨k1, k2⟩ := key m hm hne
      rcases (hblk g hb1).2 with h | h
      · rcases hrow with h' | ⟨m', j1, j2, j3⟩
        · rw [h'] at h; cases h
        · exact k2 (by rw [j1, hI.tkinj m' m g j2 k1 (j3.trans h.symm) hg1])
      · have := (hI.bnd g (.inr ⟨m, k1, hg1⟩)).2
        omega
    by_cases e1 : m = s.tok.length
    · by_cases e2 : n = s.tok.length
      · rw [e1, e2]
      · simp only [if_pos e1] at h1
        simp only [if_neg e2] at h2
        exact (clash n hn e2 h2 h1).elim
    · by_cases e2 : n = s.tok.length
      · simp only [if_neg e1] at h1
        simp only [if_pos e2] at h2
        exact (clash m hm e1 h1 h2).elim
      · simp only [if_neg e1] at h1
        simp only [if_neg e2] at h2
        exact hI.tkinj m n g (key m hm e1).1 (key n hn e2).1 h1 h2
  · rcases (live_new s K n).1 hn with rfl | ⟨h1, h2, h3⟩
    · simp only [if_pos] at he
      rcases (hblk _ he).2 with h | h
      · rcases hrow with h' | ⟨m', j1, j2, j3⟩
        · rw [h'] at h; cases h
        · exact hI.bxtk b m' hb j2 (j3.trans h.symm)
      · have := (hI.bnd _ (.inl ⟨b, hb, rfl⟩)).2
        omega
    · simp only [if_neg (Nat.ne_of_lt h1)] at he
      exact hI.bxtk b n hb h2 he
  · obtain ⟨vs, h1, h2, h3⟩ := hI.cells b ty cs hb
    refine ⟨vs, ?_, relL_step hstep _ _ h2, h3⟩
    have hblt : b < s.box.length := by
      rcases Nat.lt_or_ge b s.box.length with h | h
      · exact h
      · rw [hbox, List.getElem?_eq_none h] at hb; cases hb
    rw [hg.block _ (hI.bnd _ (.inl ⟨b, hblt, rfl⟩)).2 ?_]
    · exact h1
    · intro he
      rcases hrow with h' | ⟨m', j1, j2, j3⟩
      · rw [h'] at he; cases he
      · exact hI.bxtk b m' hblt j2 (j3.trans he.symm)

/-- A new box. -/
theorem Inv.newBox (hI : Inv Im φ s B w) (ty : Nat) (cs : List AV) (vs : List Value) (hr : relL Im φ s B w cs vs) (h1 : ∀ u ∈ vs, u.oneCell' = true) :
    Step B φ s w { φ with bx := fun b => if b = s.box.length then w.heap.size else φ.bx b } ⟨s.box ++ [(ty, cs)], s.tok⟩ (w.alloc (.cells vs.toArray ty)) ∧
    Inv Im { φ with bx := fun b => if b = s.box.length then w.heap.size else φ.bx b } ⟨s.box ++ [(ty, cs)], s.tok⟩ B (w.alloc (.cells vs.toArray ty)) := by
  have hmut : ∀ g, Mut { φ with bx := fun b => if b = s.box.length then w.heap.size else φ.bx b } ⟨s.box ++ [(ty, cs)], s.tok⟩ g → Mut φ s g ∨ g = w.heap.size := by
    rintro g (⟨b, hb, he⟩ | ⟨n, hn, he⟩)
    · by_cases e : b = s.box.length
      · simp only [if_pos e] at he
        exact .inr he.symm
      · simp only [if_neg e] at he
        simp at hb
        exact .inl (.inl ⟨b, by omega, he⟩)
    · exact .inl (.inr ⟨n, hn, he⟩)
  have hold : ∀ g, g < w.heap.size → (w.alloc (.cells vs.toArray ty)).heap[g]? = w.heap[g]? := fun g hg => Below.heap_alloc w _ g hg
  have hsz : (w.alloc (.cells vs.toArray ty)).heap.size = w.heap.size + 1 := by simp
  have hstep : Step B φ s w { φ with bx := fun b => if b = s.box.length then w.heap.size else φ.bx b } ⟨s.box ++ [(ty, cs)], s.tok⟩ (w.alloc (.cells vs.toArray ty)) := by
    refine ⟨Nat.le_refl _, by simp, fun b hb => if_neg (Nat.ne_of_lt hb), fun n hn hl => ⟨hl, rfl, fun g hg => hold g (hI.bnd g (.inr ⟨n, hl, hg⟩)).2⟩, fun g hg hm => ⟨hold g hg, fun h => ?_⟩, (Below.refl B w).alloc hI.hB _⟩
    rcases hmut g h with h | h
    · exact hm h
    · omega
  refine ⟨hstep, by rw [hsz]; have := hI.hB; omega, fun g hm => ?_, fun b b' hb hb' he => ?_, hI.tkinj, fun b n hb hn he => ?_, fun b ty' cs' hb => ?_⟩
  · rw [hsz]
    rcases hmut g hm with h | h
    · obtain ⟨h1, h2⟩ := hI.bnd g h
      exact ⟨h1, by omega⟩
    · have := hI.hB
      exact ⟨by omega, by omega⟩
  · simp at hb hb'
    have far : ∀ c, c < s.box.length → φ.bx c < w.heap.size := fun c hc => (hI.bnd _ (.inl ⟨c, hc, rfl⟩)).2
    by_cases e1 : b = s.box.length
    · by_cases e2 : b' = s.box.length
      · omega
      · simp only [if_pos e1, if_neg e2] at he
        have := far b' (by omega)
        omega
    · by_cases e2 : b' = s.box.length
      · simp only [if_neg e1, if_pos e2] at he
        have := far b (by omega)
        omega
      · simp only [if_neg e1, if_neg e2] at he
        exact hI.bxinj b b' (by omega) (by omega) he
  · simp at hb
    by_cases e1 : b = s.box.length
    · simp only [if_pos e1] at he
      have := (hI.bnd _ (.inr ⟨n, hn, he⟩)).2
      omega
    · simp only [if_neg e1] at he
      exact hI.bxtk b n (by omega) hn he
  · by_cases e1 : b = s.box.length
    · subst e1
      simp only [List.getElem?_append_right (Nat.le_refl _), Nat.sub_self, List.getElem?_cons_zero, Option.some.injEq, Prod.mk.injEq] at hb
      obtain ⟨rfl, rfl⟩ := hb
      refine ⟨vs, ?_, relL_step hstep _ _ hr, h1⟩
      simp only [if_pos]
      exact heap_alloc_new w _
    · have hlt : b < s.box.length := by
        rcases Nat.lt_or_ge b s.box.length with h | h
        · exact h
        · rw [List.getElem?_append_right h] at hb
          have : b - s.box.length ≠ 0 := by omega
          simp [this] at hb
      rw [List.getElem?_append_left hlt] at hb
      obtain ⟨us, k1, k2, k3⟩ := hI.cells b ty' cs' hb
      refine ⟨us, ?_, relL_step hstep _ _ k2, k3⟩
      simp only [if_neg e1]
      rw [hold _ (hI.bnd _ (.inl ⟨b, hlt, rfl⟩)).2]
      exact k1
end
end Go.Proofs.YtfodigfliiemeaaA
