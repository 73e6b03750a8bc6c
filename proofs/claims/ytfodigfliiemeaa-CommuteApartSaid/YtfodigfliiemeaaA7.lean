/- The abstract layer, seventh text: stores into boxes; code that is walked in the text's order. -/
import Derived.Test.YtfodigfliiemeaaA6
import Derived.Laws.CopyRow
namespace Go.Proofs.YtfodigfliiemeaaA
open Go.RowKit

def storeAV (T : Tab) (s : St) (t : Nat) (a x : AV) : Option St :=
  match T t, a, okCells s x with
  | some d, .ptr b off, some ys => match s.box[b]? with
    | some p => if ys.length = d.size ∧ off + ys.length ≤ p.2.length then some ⟨s.box.set b (p.1, p.2.take off ++ ys ++ p.2.drop (off + ys.length)), s.tok⟩ else none
    | none => none
  | _, _, _ => none

section
variable {P : Program} {T : Tab} (hT : TabOk P T) {Im : Nat → Prop} {φ : Emb} {s : St} {B : Nat} {w : World}
theorem Inv.setBox (hI : Inv Im φ s B w) {b : Nat} {ty : Nat} {cs cs' : List AV} (hb : s.box[b]? = some (ty, cs)) {vs' : List Value} (hr : relL Im φ s B w cs' vs') (h1 : ∀ u ∈ vs', u.oneCell' = true) :
    Step B φ s w φ ⟨s.box.set b (ty, cs'), s.tok⟩ (w.setRow (φ.bx b) vs'.toArray) ∧ Inv Im φ ⟨s.box.set b (ty, cs'), s.tok⟩ B (w.setRow (φ.bx b) vs'.toArray) := by
  obtain ⟨vs, k1, k2, k3, k4, k5⟩ := hI.boxAt hb
  have hblt : b < s.box.length := (List.getElem?_eq_some_iff.1 hb).1
  have hM : Mut φ s (φ.bx b) := .inl ⟨b, hblt, rfl⟩
  have hother : ∀ g, g ≠ φ.bx b → (w.setRow (φ.bx b) vs'.toArray).heap[g]? = w.heap[g]? := fun g hg => setRow_other w _ g _ hg
  have hsz : (w.setRow (φ.bx b) vs'.toArray).heap.size = w.heap.size := by simp [World.setRow]
  have hmut : ∀ g, Mut φ ⟨s.box.set b (ty, cs'), s.tok⟩ g ↔ Mut φ s g := by intro g; simp [Mut, St.live]
  have hstep : Step B φ s w φ ⟨s.box.set b (ty, cs'), s.tok⟩ (w.setRow (φ.bx b) vs'.toArray) := by
    refine ⟨Nat.le_refl _, by simp, fun _ _ => rfl, fun n hn hl => ⟨hl, rfl, fun g hg => hother g fun e => hI.bxtk b n hblt hl (by rw [hg, e])⟩, fun g hg hm => ⟨hother g fun e => hm (e ▸ hM), fun h => hm ((hmut g).1 h)⟩, ?_⟩
    exact ⟨rfl, rfl, rfl, by rw [hsz]; exact Nat.le_refl _, fun k hk => hother k (by have := (hI.bnd _ hM).1; omega)⟩
  refine ⟨hstep, by rw [hsz]; exact hI.hB, fun g hm => by rw [hsz]; exact hI.bnd g ((hmut g).1 hm), fun c c' hc hc' => hI.bxinj c c' (by simpa using hc) (by simpa using hc'), hI.tkinj, fun c n hc => hI.bxtk c n (by simpa using hc), fun c ty' cs'' hc => ?_⟩
  by_cases e : b = c
  · subst e
    simp only [List.getElem?_set, if_pos, hblt] at hc
    simp only [Option.some.injEq, Prod.mk.injEq] at hc
    obtain ⟨rfl, rfl⟩ := hc
    exact ⟨vs', setRow_heap w _ _ _ _ _ k1, relL_step hstep _ _ hr, h1⟩
  · rw [List.getElem?_set_ne e] at hc
    obtain ⟨us, j1, j2, j3⟩ := hI.cells c ty' cs'' hc
    have hclt : c < s.box.length := (List.getElem?_eq_some_iff.1 hc).1
    exact ⟨us, by rw [hother _ fun h => e (hI.bxinj c b hclt hblt h).symm]; exact j1, relL_step hstep _ _ j2, j3⟩
include hT
theorem storeAV_ok (hI : Inv Im φ s B w) {t : Nat} {a x : AV} {va vx : Value} {s' : St} (h : storeAV T s t a x = some s') (ha : rel Im φ s B w a va) (hx : rel Im φ s B w x vx) :
    ∃ w', (Instr.storeAt t va vx).run P w = .ok () w' ∧ Step B φ s w φ s' w' ∧ Inv Im φ s' B w' := by
  unfold storeAV at h
  split at h
  · rename_i d b off ys hd hys
    split at h
    · rename_i p hp
      split at h
      · rename_i hc
        obtain ⟨c1, c2⟩ := hc
        injection h with h
        subst h
        simp only [rel] at ha
        obtain ⟨_, rfl⟩ := ha
        obtain ⟨g1, g2⟩ := okCells_ok hys hx
        obtain ⟨vs, k1, k2, k3, k4, k5⟩ := hI.boxAt hp
        have l1 := relL_len _ _ g1
        have l2 := relL_len _ _ k2
        obtain ⟨p1, p2⟩ := p
        have hb : s.box[b]? = some (p1, p2) := hp
        obtain ⟨hs1, hs2⟩ := hI.setBox hb (cs' := p2.take off ++ ys ++ p2.drop (off + ys.length)) (vs' := vs.take off ++ vx.cells.toList ++ vs.drop (off + vx.cells.toList.length))
          (relL_append _ _ _ _ (relL_append _ _ _ _ (relL_take _ _ _ k2) g1) (by rw [l1]; exact relL_drop _ _ _ k2))
          (by
            intro u hu
            rcases List.mem_append.1 hu with hu | hu
            · rcases List.mem_append.1 hu with hu | hu
              · exact k3 u (List.mem_of_mem_take hu)
              · exact g2 u hu
            · exact k3 u (List.mem_of_mem_drop hu))
        refine ⟨_, ?_, hs1, hs2⟩
        simp only at c2 l2
        unfold Instr.storeAt
        simp only [Instr.sureAddr, Sem.run_bind, Sem.run_pure, Result.andThen_ok]
        unfold storeVar
        rw [Sem.run_bind, run_size hT hd]
        simp only [Result.andThen_ok]
        rw [if_neg (by rw [← c1, ← l1]; simp)]
        have := run_storeCells_at P (φ.bx b) off p1 vx.cells.toList 0 vs.toArray w k1 (by simp at l1 ⊢; omega) g2
        rw [this]
        simp
      · cases h
    · cases h
  · cases h
end

/-! ### The frame, the world, the state -/
structure Sim (N : Nat) (Im : Nat → Prop) (φ0 : Emb) (s0 : St) (w0 : World) (B : Nat) (φ : Emb) (F : Fr) (s : St) (a : Act) (w : World) : Prop where
  holds : Holds Im φ s B w F a
  size : a.tmps.size = N
  defers : a.defers = []
  inv : Inv Im φ s B w
  step : Step B φ0 s0 w0 φ s w

def Lift (N : Nat) (Im : Nat → Prop) (φ0 : Emb) (s0 : St) (w0 : World) (B : Nat) (Q : Exit → Fr → St → Prop) : Exit → Act → World → Prop
  | .panic _, _, _ => False
  | .outgrown, _, _ => False
  | e, a, w => ∃ φ F s, Sim N Im φ0 s0 w0 B φ F s a w ∧ Q e F s

def dstOk (N : Nat) : Option Nat → Prop | some d => d < N | none => True

theorem Holds.put {Im : Nat → Prop} {φ : Emb} {s : St} {B : Nat} {w : World} {F : Fr} {a : Act} (h : Holds Im φ s B w F a) {x : AV} {v : Value} (hx : rel Im φ s B w x v) {d : Option Nat} (hd : dstOk a.tmps.size d) :
    Holds Im φ s B w (updO F d x) (a.put d v) := by
  cases d with
  | none => exact h
  | some d =>
    intro i
    simp only [updO, upd, Act.put]
    by_cases e : i = d
    · subst e
      rw [if_pos rfl]
      have : i < a.tmps.size := hd
      simpa [Array.getD_eq_getD_getElem?, this] using hx
    · rw [if_neg e]
      have := h i
      simpa [Array.getD_eq_getD_getElem?, Array.getElem?_setIfInBounds_ne (Ne.symm e)] using this
theorem Holds.step {Im : Nat → Prop} {φ φ' : Emb} {s s' : St} {B : Nat} {w w' : World} {F : Fr} {a : Act} (h : Holds Im φ s B w F a) (hs : Step B φ s w φ' s' w') : Holds Im φ' s' B w' F a := fun i => rel_step hs _ _ (h i)
theorem put_size (a : Act) (d : Option Nat) (v : Value) : (a.put d v).tmps.size = a.tmps.size := by cases d <;> simp [Act.put]
theorem put_defers' (a : Act) (d : Option Nat) (v : Value) : (a.put d v).defers = a.defers := by cases d <;> rfl

/-- What a function does, from values that read as args, in a state s. -/
def Enters (P : Program) (f : Nat) : Prop := ∀ args w, (callFunc f args).run P w = .ok (.enter f args) w
def Fsound (P : Program) (f : Nat) (s : St) (args : List AV) (R : St → AV → Prop) : Prop :=
  Enters P f ∧ ∀ Im φ B w vals, Inv Im φ s B w → relL Im φ s B w args vals → Calls P f vals.toArray w fun e w' => ∃ φ' s' r v, e = .returned v ∧ Step B φ s w φ' s' w' ∧ Inv Im φ' s' B w' ∧ rel Im φ' s' B w' r v ∧ R s' r
/-- The same, and it changes nothing that was there. -/
def Fclean (P : Program) (f : Nat) (s : St) (args : List AV) (R : St → AV → Prop) : Prop :=
  Enters P f ∧ ∀ Im φ B w vals, Inv Im φ s B w → relL Im φ s B w args vals → Calls P f vals.toArray w fun e w' => ∃ φ' s' r v, e = .returned v ∧ Step B φ s w φ' s' w' ∧ Inv Im φ' s' B w' ∧ rel Im φ' s' B w' r v ∧ R s' r ∧ Below w.heap.size w w'
theorem Fclean.sound {P : Program} {f : Nat} {s : St} {args : List AV} {R : St → AV → Prop} (h : Fclean P f s args R) : Fsound P f s args R :=
  ⟨h.1, fun Im φ B w vals h1 h2 => (h.2 Im φ B w vals h1 h2).mono fun _ _ ⟨φ', s', r, v, k1, k2, k3, k4, k5, _⟩ => ⟨φ', s', r, v, k1, k2, k3, k4, k5⟩⟩

/-- One operation's value, where no Go function is called and nothing is stored. -/
def ev (T : Tab) (F : Fr) (s : St) (op : Op) : Option (AV × St) :=
  match op with
  | .load t a => (loadAV T s t (look F a)).map fun x => (x, s)
  | .alloc t => evE T F s (.alloc t)
  | .box t x => evE T F s (.box t x)
  | .buildSlice t n p => evE T F s (.buildSlice t n p)
  | .makeSlice t l c => evE T F s (.makeSlice t l c)
  | .call c => match c.callee with
    | .builtin .append => evE T F s (.call c)
    | _ => (evP T F s (.call c)).map fun x => (x, s)
  | op => (evP T F s op).map fun x => (x, s)

/-- A value that is known, then what follows. -/
def bindO {α : Type} (o : Option α) (k : α → Prop) : Prop := match o with | some x => k x | none => False
theorem bindO_some {α : Type} (x : α) (k : α → Prop) : bindO (some x) k = k x := rfl
theorem bindO_spec {α : Type} {o : Option α} {k : α → Prop} (h : bindO o k) : ∃ x, o = some x ∧ k x := by
  cases o with
  | none => exact h.elim
  | some x => exact ⟨x, rfl, h⟩
theorem bindO_congr {α : Type} {o o' : Option α} (h : o = o') (k : α → Prop) : bindO o k = bindO o' k := by rw [h]
/-- A test, then two ways. -/
def condP (x : AV) (A B : Prop) : Prop := match x with | .bool b => (b = true → A) ∧ (b = false → B) | _ => False
theorem condP_true (A B : Prop) : condP (.bool true) A B = A := by simp [condP]
theorem condP_false (A B : Prop) : condP (.bool false) A B = B := by simp [condP]
theorem condP_mk {b : Bool} {A B : Prop} (h : b = true → A) (h' : b = false → B) : condP (.bool b) A B := ⟨h, h'⟩
theorem condP_spec {x : AV} {A B : Prop} (h : condP x A B) : ∃ b, x = .bool b ∧ (b = true → A) ∧ (b = false → B) := by
  cases x <;> first | exact h.elim | exact ⟨_, rfl, h⟩
theorem condP_congr {x x' : AV} (h : x = x') (A B : Prop) : condP x A B = condP x' A B := by rw [h]
/-- A call of function g, then what follows. -/
def callP (P : Program) (g : Nat) (s : St) (args : List AV) (K : St → AV → Prop) : Prop := ∃ R, Fsound P g s args R ∧ ∀ s' r, R s' r → K s' r
theorem callP_congr {P : Program} {g g' : Nat} {s s' : St} {args args' : List AV} (h1 : g = g') (h2 : s = s') (h3 : args = args') (K : St → AV → Prop) : callP P g s args K = callP P g' s' args' K := by rw [h1, h2, h3]
def fnOf : AV → Option (Nat × List AV) | .fn g caps => some (g, caps) | _ => none

def AOp (P : Program) (T : Tab) (N : Nat) (o : Oper) (F : Fr) (s : St) (K : Fr → St → Prop) : Prop :=
  match o.op with
  | .store t a x => o.dst = none ∧ bindO (storeAV T s t (look F a) (look F x)) fun s' => K F s'
  | .call c => match c.callee with
    | .value f => dstOk N o.dst ∧ bindO (fnOf (look F f)) fun p => callP P p.1 s (c.args.toList.map (look F) ++ p.2) fun s' r => K (updO F o.dst r) s'
    | _ => dstOk N o.dst ∧ bindO (ev T F s (.call c)) fun p => K (updO F o.dst p.1) p.2
  | op => dstOk N o.dst ∧ bindO (ev T F s op) fun p => K (updO F o.dst p.1) p.2

def gslot (ops : Array Oper) (j : Nat) : Option Nat := (ops[j]?).bind (·.dst)
/-- A guard: the operation is done, or left out; what a left-out guard says leaves it out, too. -/
def guardP (x : AV) (b : Bool) (A B : Prop) : Prop := match x with | .bool v => (v = b → A) ∧ (v = (!b) → B) | .tup _ => B | _ => False
def AGuard (N : Nat) (ops : Array Oper) (o : Oper) (F : Fr) (run skip : Prop) : Prop :=
  match o.guard with
  | none => run
  | some (j, b) => bindO (gslot ops j) fun d => d < N ∧ guardP (F d) b run (dstOk N o.dst ∧ skip)
def AOps (P : Program) (T : Tab) (N : Nat) (ops : Array Oper) (K : Fr → St → Prop) : List Oper → Fr → St → Prop
  | [], F, s => K F s
  | o :: rest, F, s => AGuard N ops o F (AOp P T N o F s (AOps P T N ops K rest)) (AOps P T N ops K rest (updO F o.dst (.tup [])) s)

section
variable {P : Program} {T : Tab} (hT : TabOk P T) {N : Nat} {Im : Nat → Prop} {φ0 : Emb} {s0 : St} {w0 : World} {B : Nat} {φ : Emb} {F : Fr} {s : St} {a : Act} {w : World}
include hT
/-- 'ev' is sound. -/
theorem ev_ok (hS : Sim N Im φ0 s0 w0 B φ F s a w) {o : Oper} {x : AV} {s' : St} (h : ev T F s o.op = some (x, s')) :
    ∃ φ' v w', (execOp a.eval o).run P w = .ok (.value v) w' ∧ Step B φ s w φ' s' w' ∧ Inv Im φ' s' B w' ∧ rel Im φ' s' B w' x v := by
  have hp : ∀ y, (evP T F s o.op).map (fun x => (x, s)) = some (y, s') → y = x → ∃ φ' v w', (execOp a.eval o).run P w = .ok (.value v) w' ∧ Step B φ s w φ' s' w' ∧ Inv Im φ' s' B w' ∧ rel Im φ' s' B w' x v := by
    intro y hy e
    subst e
    obtain ⟨z, hz, he⟩ := Option.map_eq_some_iff.1 hy
    simp only [Prod.mk.injEq] at he
    obtain ⟨rfl, rfl⟩ := he
    obtain ⟨v, h1, h2⟩ := evP_ok hT hS.holds hz
    exact ⟨φ, v, w, h1 w, Step.refl .., hS.inv, h2⟩
  have he : evE T F s o.op = some (x, s') → ∃ φ' v w', (execOp a.eval o).run P w = .ok (.value v) w' ∧ Step B φ s w φ' s' w' ∧ Inv Im φ' s' B w' ∧ rel Im φ' s' B w' x v := by
    intro hy
    obtain ⟨φ', v, w', h1, h2, h3, h4, _⟩ := evE_ok hT hS.inv hS.holds hy
    exact ⟨φ', v, w', h1, h2, h3, h4⟩
  obtain ⟨dst, op, ty, pos, after, guard⟩ := o
  simp only at h hp he
  cases op with
  | load t p =>
    simp only [ev] at h
    obtain ⟨z, hz, he⟩ := Option.map_eq_some_iff.1 h
    simp only [Prod.mk.injEq] at he
    obtain ⟨rfl, rfl⟩ := he
    obtain ⟨v, h1, h2⟩ := loadAV_ok hT hS.inv hz (look_ok hS.holds p)
    refine ⟨φ, v, w, ?_, Step.refl .., hS.inv, h2⟩
    simp [execOp, h1 w (Below.refl _ _)]
  | alloc t => exact he h
  | box t p => exact he h
  | buildSlice t n p => exact he h
  | makeSlice t l c => exact he h
  | call c =>
    simp only [ev] at h
    split at h
    · exact he h
    · exact hp _ h rfl
  | _ => exact hp _ h rfl

omit hT in
theorem Sim.put (hS : Sim N Im φ0 s0 w0 B φ F s a w) {φ' : Emb} {s' : St} {w' : World} (h1 : Step B φ s w φ' s' w') (h2 : Inv Im φ' s' B w') {x : AV} {v : Value} (h3 : rel Im φ' s' B w' x v) {d : Option Nat} (hd : dstOk N d) :
    Sim N Im φ0 s0 w0 B φ' (updO F d x) s' (a.put d v) w' :=
  ⟨(hS.holds.step h1).put h3 (by rw [hS.size]; exact hd), by rw [put_size, hS.size], by rw [put_defers', hS.defers], h2, hS.step.trans h1⟩

theorem AOp_ok {o : Oper} {K : Fr → St → Prop} (hS : Sim N Im φ0 s0 w0 B φ F s a w) (h : AOp P T N o F s K) {next : Act → World → Prop} {Q : Exit → Act → World → Prop}
    (hn : ∀ φ F s a w, Sim N Im φ0 s0 w0 B φ F s a w → K F s → next a w) : o.wp P a w next Q := by
  unfold Oper.wp
  have gen : ∀ x s', ev T F s o.op = some (x, s') → dstOk N o.dst → K (updO F o.dst x) s' → o.upon P a next Q ((execOp a.eval o).run P w) := by
    intro x s' h1 h2 h3
    obtain ⟨φ', v, w', k1, k2, k3, k4⟩ := ev_ok hT hS h1
    rw [k1, Oper.upon_value]
    exact hn _ _ _ _ _ (hS.put k2 k3 k4 h2) h3
  unfold AOp at h
  split at h
  · rename_i t p q hop
    obtain ⟨hd, h⟩ := h
    obtain ⟨s', h1, h2⟩ := bindO_spec h
    obtain ⟨w', k1, k2, k3⟩ := storeAV_ok hT hS.inv h1 (look_ok hS.holds p) (look_ok hS.holds q)
    have hrun : (execOp a.eval o).run P w = .ok .skip w' := by simp [execOp, hop, k1]
    rw [hrun, Oper.upon_skip, hd]
    exact hn φ F s' a w' ⟨hS.holds.step k2, hS.size, hS.defers, k3, hS.step.trans k2⟩ h2
  · rename_i c hop
    split at h
    · rename_i f hc
      obtain ⟨h3, h⟩ := h
      obtain ⟨p, hp, R, ⟨hen, h2⟩, h4⟩ := bindO_spec h
      have h1 : look F f = .fn p.1 p.2 := by
        unfold fnOf at hp
        split at hp
        · rename_i g caps hg; injection hp with hp; subst hp; exact hg
        · cases hp
      have hf := look_ok hS.holds f
      rw [h1] at hf
      simp only [rel] at hf
      obtain ⟨cs, hcs, hrc⟩ := hf
      have hargs : relL Im φ s B w (c.args.toList.map (look F) ++ p.2) (c.args.toList.map a.eval ++ cs) := relL_append _ _ _ _ (relL_map hS.holds _) hrc
      have hcall := h2 Im φ B w _ hS.inv hargs
      have hrun : (execOp a.eval o).run P w = .ok (.enter p.1 (c.args.toList.map a.eval ++ cs).toArray) w := by
        have : (c.args.toList.map a.eval ++ cs).toArray = #[] ++ c.args.map a.eval ++ cs.toArray := by
          apply Array.ext'
          simp
        rw [this]
        simp [execOp, hop, resolve, hc, hcs, Deferred.ofValue, invoke]
        exact hen _ _
      rw [hrun, Oper.upon_enter]
      refine hcall.mono fun e w' hh => ?_
      obtain ⟨φ', s', r, v, rfl, k1, k2, k3, k4⟩ := hh
      exact hn _ _ _ _ _ (hS.put k1 k2 k3 h3) (h4 s' r k4)
    · obtain ⟨h1, h⟩ := h
      obtain ⟨p, h2, h3⟩ := bindO_spec h
      exact gen p.1 p.2 (by rw [hop]; exact h2) h1 h3
  · obtain ⟨h1, h⟩ := h
    obtain ⟨p, h2, h3⟩ := bindO_spec h
    exact gen p.1 p.2 h2 h1 h3

omit hT in
theorem yielded_of {ops : Array Oper} {j d : Nat} {v : Bool} (hg : gslot ops j = some d) (hS : Sim N Im φ0 s0 w0 B φ F s a w) (hd : d < N) (hF : F d = .bool v) : yielded ops a.tmps j = some v := by
  have h := hS.holds d
  rw [hF] at h
  simp only [rel] at h
  have hlt : d < a.tmps.size := by rw [hS.size]; exact hd
  unfold gslot at hg
  unfold yielded
  rw [hg]
  simp [hlt] at h
  simp [hlt, h]

omit hT in
theorem AGuard_ok {ops : Array Oper} {o : Oper} {run skip : Prop} (hS : Sim N Im φ0 s0 w0 B φ F s a w) (h : AGuard N ops o F run skip) :
    (Region.wanted o (yielded ops a.tmps) = true ∧ run) ∨ (Region.wanted o (yielded ops a.tmps) = false ∧ dstOk N o.dst ∧ skip) := by
  unfold AGuard at h
  split at h
  · rename_i hg
    exact .inl ⟨by simp [Region.wanted, hg], h⟩
  · rename_i j b hg
    obtain ⟨d, h1, h2, h3⟩ := bindO_spec h
    cases hF : F d with
    | bool v =>
      rw [hF] at h3
      have hy := yielded_of h1 hS h2 hF
      by_cases e : v = b
      · exact .inl ⟨by simp [Region.wanted, hg, hy, e], h3.1 e⟩
      · exact .inr ⟨by simp [Region.wanted, hg, hy, e], h3.2 (by cases v <;> cases b <;> simp_all)⟩
    | tup xs =>
      rw [hF] at h3
      have hh := hS.holds d
      rw [hF] at hh
      simp only [rel] at hh
      obtain ⟨cs, hc, _⟩ := hh
      have hlt : d < a.tmps.size := by rw [hS.size]; exact h2
      have hy : yielded ops a.tmps j = none := by
        unfold gslot at h1
        unfold yielded
        rw [h1]
        simp [hlt] at hc
        simp [hlt, hc]
      exact .inr ⟨by simp [Region.wanted, hg, hy], h3⟩
    | _ => rw [hF] at h3; exact h3.elim
theorem AOps_ok {ops : Array Oper} {K : Fr → St → Prop} {Q : Exit → Act → World → Prop} (hn : ∀ φ F s a w, Sim N Im φ0 s0 w0 B φ F s a w → K F s → Q .normal a w) :
    ∀ (l : List Oper) (k : Nat), (∀ i, l[i]? = ops[k + i]?) → ∀ (φ : Emb) (F : Fr) (s : St) (a : Act) (w : World), Sim N Im φ0 s0 w0 B φ F s a w → AOps P T N ops K l F s → wpOps P ops Q (List.range' k l.length) a w
  | [], k, hl, φ, F, s, a, w, hS, h => hn φ F s a w hS h
  | o :: rest, k, hl, φ, F, s, a, w, hS, h => by
    simp only [AOps] at h
    have ho : ops[k]? = some o := by have := hl 0; simpa using this.symm
    have hl' : ∀ i, rest[i]? = ops[(k + 1) + i]? := fun i => by have := hl (i + 1); rw [List.getElem?_cons_succ] at this; rw [this]; congr 1; omega
    simp only [List.length_cons, List.range'_succ, wpOps, ho]
    have run : AOp P T N o F s (AOps P T N ops K rest) → o.wp P a w (wpOps P ops Q (List.range' (k + 1) rest.length)) Q := fun h => AOp_ok hT hS h (fun φ F s a w h1 h2 => AOps_ok hn rest (k + 1) hl' φ F s a w h1 h2)
    rcases AGuard_ok hS h with ⟨hw, h⟩ | ⟨hw, k1, k2⟩
    · rw [if_pos hw]
      exact .inl (run h)
    · rw [if_neg (by rw [hw]; simp)]
      exact AOps_ok hn rest (k + 1) hl' φ _ s _ w (hS.put (Step.refl ..) hS.inv (x := .tup []) (v := undef) (by simp [rel, relL, undef]) k1) k2
theorem AOps_all {ops : Array Oper} {K : Fr → St → Prop} {Q : Exit → Act → World → Prop} (hn : ∀ φ F s a w, Sim N Im φ0 s0 w0 B φ F s a w → K F s → Q .normal a w) (φ : Emb) (F : Fr) (s : St) (a : Act) (w : World)
    (hS : Sim N Im φ0 s0 w0 B φ F s a w) (h : AOps P T N ops K ops.toList F s) : wpOps P ops Q (List.range ops.size) a w := by
  have := AOps_ok hT hn ops.toList 0 (fun i => by simp) φ F s a w hS h
  rwa [Array.length_toList, ← List.range_eq_range'] at this
end
end Go.Proofs.YtfodigfliiemeaaA
