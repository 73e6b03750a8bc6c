/- The abstract layer, eighth text: regions that draw their order; code. -/
import Derived.Test.YtknbhgcjgkejiaaV7
import Derived.OrdersHeld
set_option linter.unusedVariables false
set_option linter.unusedSimpArgs false
set_option linter.constructorNameAsVariable false
namespace Go.Proofs.YtknbhgcjgkejiaaV
open Go.RowKit

/-! ### A region that draws: whatever order is picked; each operation that is not of ds leaves all that was as it was -/
section
variable {P : Program} {ops : Array Oper} {Q : Exit → Act → World → Prop} {md : Region.Mode} {ds : List Nat}
def reachB (md : Region.Mode) (ops : Array Oper) (i : Nat) : Nat → Nat → Bool
  | 0, _ => false
  | fuel + 1, d => match ops[d]? with
    | some o => o.after.any fun e => Region.binds md e && (e.on == i || reachB md ops i fuel e.on)
    | none => false
def closedB (md : Region.Mode) (ops : Array Oper) (listed : Array Bool) : Bool :=
  (List.range ops.size).all fun j => !listed.getD j false || match ops[j]? with
    | some o => o.after.all fun e => !Region.binds md e || listed.getD e.on false
    | none => true
def lastB (md : Region.Mode) (ops : Array Oper) (listed : Array Bool) (ds : List Nat) (i : Nat) : Bool :=
  ds.all fun d => listed.getD d true || reachB md ops i ops.size d
def LClosed (md : Region.Mode) (ops : Array Oper) (listed : Array Bool) : Prop :=
  ∀ j oj, ops[j]? = some oj → listed.getD j false = true → ∀ e ∈ oj.after, Region.binds md e = true → listed.getD e.on false = true

theorem closedB_spec {listed : Array Bool} (h : closedB md ops listed = true) : LClosed md ops listed := by
  intro j oj hj hl e he hb
  have hlt : j < ops.size := (Array.getElem?_eq_some_iff.1 hj).1
  have h1 := List.all_eq_true.1 h j (List.mem_range.2 hlt)
  simp only [hl, hj, Bool.not_true, Bool.false_or] at h1
  have h2 := Array.all_eq_true_iff_forall_mem.1 h1 e he
  simpa [hb] using h2
theorem LClosed.set {listed : Array Bool} {i : Nat} (h : LClosed md ops listed) (hi : i ∈ Region.ready md ops listed) : LClosed md ops (listed.setIfInBounds i true) := by
  obtain ⟨_, oi, hoi, hall⟩ := mem_ready.1 hi
  intro j oj hj hl e he hb
  by_cases hij : i = j
  · subst hij
    have : oj = oi := Option.some.inj (hj.symm.trans hoi)
    subst this
    exact getD_set_true (hall e he hb)
  · rw [getD_set_ne false hij] at hl
    exact getD_set_true (h j oj hj hl e he hb)
theorem reach_listed {listed : Array Bool} {i : Nat} (hc : LClosed md ops listed) : ∀ (fuel d : Nat), reachB md ops i fuel d = true → listed.getD d false = true → listed.getD i false = true
  | 0, _, h, _ => by simp [reachB] at h
  | fuel + 1, d, h, hl => by
    unfold reachB at h
    cases ho : ops[d]? with
    | none => rw [ho] at h; simp at h
    | some o =>
      rw [ho] at h
      obtain ⟨e, he, h1⟩ := Array.any_eq_true'.1 h
      simp only [Bool.and_eq_true, Bool.or_eq_true, beq_iff_eq] at h1
      have hle := hc d o ho hl e he h1.1
      rcases h1.2 with h2 | h2
      · rw [← h2]; exact hle
      · exact reach_listed hc fuel e.on h2 hle
theorem reach_not_ready {listed : Array Bool} {i d fuel : Nat} (hc : LClosed md ops listed) (hr : reachB md ops i fuel d = true) (hun : listed.getD i true = false) : d ∉ Region.ready md ops listed := by
  intro hd
  obtain ⟨_, o, ho, hall⟩ := mem_ready.1 hd
  have hi : listed.getD i false = true := by
    cases fuel with
    | zero => simp [reachB] at hr
    | succ n =>
      unfold reachB at hr
      rw [ho] at hr
      obtain ⟨e, he, h1⟩ := Array.any_eq_true'.1 hr
      simp only [Bool.and_eq_true, Bool.or_eq_true, beq_iff_eq] at h1
      have hle := hall e he h1.1
      rcases h1.2 with h2 | h2
      · rw [← h2]; exact hle
      · exact reach_listed hc n e.on h2 hle
  rcases Nat.lt_or_ge i listed.size with h' | h'
  · simp [h'] at hun hi
    rw [hun] at hi
    cases hi
  · simp [Array.getElem?_eq_none h'] at hun

def wpG (P : Program) (md : Region.Mode) (ops : Array Oper) (Q : Exit → Act → World → Prop) (ds : List Nat) : Nat → Array Bool → Act → World → Prop
  | 0, listed, a, w => Region.ready md ops listed = [] ∧ Q .normal a w
  | fuel + 1, listed, a, w =>
    (Region.ready md ops listed = [] → Q .normal a w) ∧
    ∀ i ∈ Region.ready md ops listed, wpOp P ops Q i (fun a' w' => (i ∉ ds → Below w.heap.size w w') ∧ wpG P md ops Q ds fuel (listed.setIfInBounds i true) a' w') a w
theorem wpAny_of_G : ∀ (fuel : Nat) (listed : Array Bool) (a : Act) (w : World), wpG P md ops Q ds fuel listed a w → wpAny P md ops Q fuel listed a w
  | 0, _, _, _, h => h
  | fuel + 1, _, _, _, h => ⟨h.1, fun i hi => wpOp_mono (fun a' w' h' => wpAny_of_G fuel _ a' w' h'.2) (h.2 i hi)⟩

theorem yieldsIf_later {o : Oper} {v : Value} {a : Act} {w w' : World} (h : YieldsIf P ops (Below w.heap.size w) o v a) (hb : Below w.heap.size w w') : YieldsIf P ops (Below w'.heap.size w') o v a :=
  h.imp (fun ⟨h1, h2⟩ => ⟨h1, fun w'' hw => h2 w'' (hb.trans (hw.mono hb.size))⟩) id

/-- An operation that may come up now may be taken first, if it yields its value in whatever world, or in every later world and what may change memory waits for it. -/
theorem wpG_first {i : Nat} {oi : Oper} {v : Value} (hi : ops[i]? = some oi) (hsel : ∀ (j : Nat) (o : Oper) cs b, ops[j]? = some o → o.op ≠ .select cs b)
    (hQ : ∀ c a w, Q (.panic c) (a.put oi.dst v) w → Q (.panic c) a w) (n : Nat) :
    ∀ (fuel : Nat) (listed : Array Bool) (a : Act) (w : World),
      (∀ j oj, ops[j]? = some oj → j ≠ i → listed.getD j true = false → (∀ e ∈ oj.after, Region.binds md e = true → e.on ≠ i) → oi.apart ops oj = true) →
      i ∈ Region.ready md ops listed → (Yields P ops oi v a ∨ (LClosed md ops listed ∧ (∀ d ∈ ds, listed.getD d true = false → reachB md ops i n d = true) ∧ YieldsIf P ops (Below w.heap.size w) oi v a)) →
      wpG P md ops Q ds fuel (listed.setIfInBounds i true) (a.put oi.dst v) w → wpG P md ops Q ds (fuel + 1) listed a w := by
  intro fuel
  have now : ∀ (listed : Array Bool) (a : Act) (w : World), (Yields P ops oi v a ∨ (LClosed md ops listed ∧ (∀ d ∈ ds, listed.getD d true = false → reachB md ops i n d = true) ∧ YieldsIf P ops (Below w.heap.size w) oi v a)) →
      YieldsIf P ops (Below w.heap.size w) oi v a := by
    rintro listed a w (h | ⟨_, _, h⟩)
    · exact h.yieldsIf
    · exact h
  induction fuel with
  | zero =>
    intro listed a w _ hr hy H
    refine ⟨fun h => (by rw [h] at hr; cases hr), fun j hj => ?_⟩
    by_cases hji : j = i
    · subst hji; exact (now _ _ _ hy).wpOp hi (Below.refl _ _) ⟨fun _ => Below.refl _ _, H⟩
    · have := ready_mono hj hji
      rw [H.1] at this
      cases this
  | succ fuel ih =>
    intro listed a w hfree hr hy H
    refine ⟨fun h => (by rw [h] at hr; cases hr), fun j hj => ?_⟩
    by_cases hji : j = i
    · subst hji; exact (now _ _ _ hy).wpOp hi (Below.refl _ _) ⟨fun _ => Below.refl _ _, H⟩
    · have h1 := H.2 j (ready_mono hj hji)
      obtain ⟨hjun, oj, hoj, hall⟩ := mem_ready.1 hj
      have hiun := (mem_ready.1 hr).1
      have hnot : ∀ e ∈ oj.after, Region.binds md e = true → e.on ≠ i := fun e he hb heq => by
        have h1 := hall e he hb
        rw [heq] at h1
        rcases Nat.lt_or_ge i listed.size with h' | h'
        · simp [h'] at hiun h1; rw [hiun] at h1; cases h1
        · simp [Array.getElem?_eq_none h'] at h1
      have hfree' : ∀ k ok, ops[k]? = some ok → k ≠ i → (listed.setIfInBounds j true).getD k true = false →
          (∀ e ∈ ok.after, Region.binds md e = true → e.on ≠ i) → oi.apart ops ok = true := fun k ok hk hki hun hno => by
        refine hfree k ok hk hki ?_ hno
        by_cases hjk : j = k
        · subst hjk; exact hjun
        · rw [getD_set_ne true hjk] at hun; exact hun
      have hap := hfree j oj hoj hji hjun hnot
      rcases hy with hy | ⟨hc, hd, hy⟩
      · have h2 := wpOp_put hoj hap (fun cs b => hsel i oi cs b hi) (fun cs b => hsel j oj cs b hoj) hQ hy h1
        refine wpOp_mono (fun a' w' h3 => ⟨h3.2.1, ih (listed.setIfInBounds j true) a' w' hfree' (ready_mono hr (Ne.symm hji)) (.inl h3.1) ?_⟩) h2
        rw [Array.setIfInBounds_comm _ _ hji]
        exact h3.2.2
      · have h2 := wpOp_putIf hoj hap (fun cs b => hsel i oi cs b hi) (fun cs b => hsel j oj cs b hoj) hQ hy h1
        have hjd : j ∉ ds := fun hm => reach_not_ready hc (hd j hm hjun) hiun hj
        have hd' : ∀ d ∈ ds, (listed.setIfInBounds j true).getD d true = false → reachB md ops i n d = true := fun d hm hun => by
          refine hd d hm ?_
          by_cases hjk : j = d
          · subst hjk; exact hjun
          · rw [getD_set_ne true hjk] at hun; exact hun
        refine wpOp_mono (fun a' w' h3 => ⟨h3.2.1, ih (listed.setIfInBounds j true) a' w' hfree' (ready_mono hr (Ne.symm hji)) (.inr ⟨hc.set hj, hd', yieldsIf_later h3.1 (h3.2.1 hjd)⟩) ?_⟩) h2
        rw [Array.setIfInBounds_comm _ _ hji]
        exact h3.2.2
end

/-- How an operation of such a region is told: it looks at no memory; it loads; it makes new memory alone; anything else. -/
inductive PK where | p | l | c | x
  deriving DecidableEq

def callC (P : Program) (g : Nat) (s : St) (args : List AV) (K : St → AV → Prop) : Prop := ∃ R, Fclean P g s args R ∧ ∀ s' r, R s' r → K s' r
theorem callC_congr {P : Program} {g g' : Nat} {s s' : St} {args args' : List AV} (h1 : g = g') (h2 : s = s') (h3 : args = args') (K : St → AV → Prop) : callC P g s args K = callC P g' s' args' K := by rw [h1, h2, h3]
def AClean (P : Program) (T : Tab) (N : Nat) (o : Oper) (F : Fr) (s : St) (K : Fr → St → Prop) : Prop :=
  match o.op with
  | .call c => match c.callee with
    | .value f => dstOk N o.dst ∧ Wk (fun F s => bindO (fnOf (look F f)) fun p => callC P p.1 s (c.args.toList.map (look F) ++ p.2) fun s' r => K (updO F o.dst r) s') F s
    | _ => False
  | op => isNew op = true ∧ dstOk N o.dst ∧ bindO (evE T F s op) fun p => K (updO F o.dst p.1) p.2
def ALoad (T : Tab) (N : Nat) (o : Oper) (F : Fr) (s : St) (K : Fr → St → Prop) : Prop :=
  match o.op with
  | .load t a => dstOk N o.dst ∧ bindO (loadAV T s t (look F a)) fun x => K (updO F o.dst x) s
  | .convert a b x => dstOk N o.dst ∧ bindO (bytesAV T s a b (look F x)) fun x => K (updO F o.dst x) s
  | _ => False
def AOpK (P : Program) (T : Tab) (N : Nat) (k : PK) (o : Oper) (F : Fr) (s : St) (K : Fr → St → Prop) : Prop :=
  match k with
  | .p => dstOk N o.dst ∧ bindO (evP T F s o.op) fun x => K (updO F o.dst x) s
  | .l => ALoad T N o F s K
  | .c => AClean P T N o F s K
  | .x => AOp P T N o F s K

/-- A plan: which operation comes up, one after the other; where two may come up, both ways. -/
inductive Pl where
  | nil
  | go (i : Nat) (k : PK) (r : Pl)
  | two (i : Nat) (k : PK) (r : Pl) (j : Nat) (l : PK) (q : Pl)
def Pl.len : Pl → Nat
  | .nil => 0
  | .go _ _ r => r.len + 1
  | .two _ _ r _ _ _ => r.len + 1
def APlan (P : Program) (T : Tab) (N : Nat) (ops : Array Oper) (K : Fr → St → Prop) : Pl → Fr → St → Prop
  | .nil, F, s => K F s
  | .go i k rest, F, s => bindO (ops[i]?) fun o => AGuard N ops o F (AOpK P T N k o F s (APlan P T N ops K rest)) (APlan P T N ops K rest (updO F o.dst (.tup [])) s)
  | .two i k rest j l q, F, s => (bindO (ops[i]?) fun o => AGuard N ops o F (AOpK P T N k o F s (APlan P T N ops K rest)) (APlan P T N ops K rest (updO F o.dst (.tup [])) s)) ∧
      (bindO (ops[j]?) fun o => AGuard N ops o F (AOpK P T N l o F s (APlan P T N ops K q)) (APlan P T N ops K q (updO F o.dst (.tup [])) s))

/-- The static check of a plan. -/
def aloneB (ds : List Nat) (i : Nat) : PK → Bool
  | .c => !ds.contains i
  | .x => ds.contains i
  | _ => false
def planB (md : Region.Mode) (ops : Array Oper) (ds : List Nat) : Array Bool → Pl → Bool
  | listed, .nil => Region.ready md ops listed == []
  | listed, .go i k rest =>
    (match k with
    | .p => Region.free md ops listed i && (Region.ready md ops listed).contains i
    | .l => Region.free md ops listed i && (Region.ready md ops listed).contains i && closedB md ops listed && lastB md ops listed ds i
    | k => (Region.ready md ops listed == [i]) && aloneB ds i k) && planB md ops ds (listed.setIfInBounds i true) rest
  | listed, .two i k rest j l q => (Region.ready md ops listed == [i, j]) && aloneB ds i k && aloneB ds j l && (rest.len == q.len) && planB md ops ds (listed.setIfInBounds i true) rest && planB md ops ds (listed.setIfInBounds j true) q
def planOk (ops : Array Oper) (ds : List Nat) (pl : Pl) : Bool := Region.noSelect ops && planB .any ops ds (Array.replicate ops.size false) pl && pl.len ≤ ops.size
def ADraw (P : Program) (T : Tab) (N : Nat) (ops : Array Oper) (K : Fr → St → Prop) (F : Fr) (s : St) : Prop :=
  ∃ ds pl, planOk ops ds pl = true ∧ APlan P T N ops K pl F s

section
variable {P : Program} {T : Tab} (hT : TabOk P T) {N : Nat} {Im : Nat → Prop} {φ0 : Emb} {s0 : St} {w0 : World} {B : Nat}
include hT
theorem AClean_ok {φ : Emb} {F : Fr} {s : St} {a : Act} {w : World} {o : Oper} {K : Fr → St → Prop} (hS : Sim N Im φ0 s0 w0 B φ F s a w) (h : AClean P T N o F s K) {next : Act → World → Prop} {Q : Exit → Act → World → Prop}
    (hn : ∀ φ F s a w', Sim N Im φ0 s0 w0 B φ F s a w' → K F s → Below w.heap.size w w' → next a w') : o.wp P a w next Q := by
  unfold Oper.wp
  unfold AClean at h
  split at h
  · rename_i c hop
    split at h
    · rename_i f hc
      obtain ⟨h3, F1, s1, hW, h⟩ := h
      obtain ⟨φ1, hS⟩ := hW _ _ _ _ _ _ _ _ _ hS
      obtain ⟨p, hp, R, ⟨hen, h2⟩, h4⟩ := bindO_spec h
      have h1 : look F1 f = .fn p.1 p.2 := by
        unfold fnOf at hp
        split at hp
        · rename_i g caps hg; injection hp with hp; subst hp; exact hg
        · cases hp
      have hf := look_ok hS.holds f
      rw [h1] at hf
      simp only [rel] at hf
      obtain ⟨cs, hcs, hrc⟩ := hf
      have hargs : relL Im φ1 s1 B w (c.args.toList.map (look F1) ++ p.2) (c.args.toList.map a.eval ++ cs) := relL_append _ _ _ _ (relL_map hS.holds _) hrc
      have hcall := h2 Im φ1 B w _ hS.inv hargs
      have hrun : (execOp a.eval o).run P w = .ok (.enter p.1 (c.args.toList.map a.eval ++ cs).toArray) w := by
        have : (c.args.toList.map a.eval ++ cs).toArray = #[] ++ c.args.map a.eval ++ cs.toArray := by
          apply Array.ext'
          simp
        rw [this]
        simp [execOp, hop, resolve, hc, hcs, Deferred.ofValue, invoke]
        exact hen _ _
      rw [hrun, Oper.upon_enter]
      refine hcall.mono fun e w' hh => ?_
      obtain ⟨φ', s', r, v, rfl, k1, k2, k3, k4, k5⟩ := hh
      exact hn _ _ _ _ _ (hS.put k1 k2 k3 h3) (h4 s' r k4) k5
    · exact h.elim
  · obtain ⟨h0, h2, h⟩ := h
    obtain ⟨p, h1, h3⟩ := bindO_spec h
    obtain ⟨φ', v, w', k1, k2, k3, k4, k5⟩ := evE_ok hT hS.inv hS.holds h1
    rw [k1, Oper.upon_value]
    exact hn _ _ _ _ _ (hS.put k2 k3 k4 h2) h3 (k5 h0)

theorem APlan_ok {ops : Array Oper} {ds : List Nat} (hns : Region.noSelect ops = true) {K : Fr → St → Prop} {Q : Exit → Fr → St → Prop} (hK : ∀ F s, K F s → Q .normal F s) :
    ∀ (pl : Pl) (listed : Array Bool) (φ : Emb) (F : Fr) (s : St) (a : Act) (w : World), planB .any ops ds listed pl = true → Sim N Im φ0 s0 w0 B φ F s a w → APlan P T N ops K pl F s →
      wpG P .any ops (Lift N Im φ0 s0 w0 B Q) ds pl.len listed a w := by
  have undefS : ∀ {φ : Emb} {F : Fr} {s : St} {a : Act} {w : World} {o : Oper}, Sim N Im φ0 s0 w0 B φ F s a w → dstOk N o.dst → Sim N Im φ0 s0 w0 B φ (updO F o.dst (.tup [])) s (a.put o.dst undef) w :=
    fun hS hd => hS.put (Step.refl ..) hS.inv (x := .tup []) (v := undef) (by simp [rel, relL, undef]) hd
  -- an operation that comes up alone, or beside another one
  have one : ∀ (rest : Pl) (listed : Array Bool) (i : Nat) (k : PK) (φ : Emb) (F : Fr) (s : St) (a : Act) (w : World), aloneB ds i k = true → Sim N Im φ0 s0 w0 B φ F s a w →
      (bindO (ops[i]?) fun o => AGuard N ops o F (AOpK P T N k o F s (APlan P T N ops K rest)) (APlan P T N ops K rest (updO F o.dst (.tup [])) s)) →
      (∀ (φ : Emb) (F : Fr) (s : St) (a : Act) (w : World), Sim N Im φ0 s0 w0 B φ F s a w → APlan P T N ops K rest F s → wpG P .any ops (Lift N Im φ0 s0 w0 B Q) ds rest.len (listed.setIfInBounds i true) a w) →
      wpOp P ops (Lift N Im φ0 s0 w0 B Q) i (fun a' w' => (i ∉ ds → Below w.heap.size w w') ∧ wpG P .any ops (Lift N Im φ0 s0 w0 B Q) ds rest.len (listed.setIfInBounds i true) a' w') a w := by
    intro rest listed i k φ F s a w hp hS h ih
    obtain ⟨o, ho, h⟩ := bindO_spec h
    have hguard := AGuard_ok hS h
    unfold wpOp
    simp only [ho]
    rcases hguard with ⟨hw, hx⟩ | ⟨hw, hx⟩
    · rw [if_pos hw]
      cases k with
      | p => cases hp
      | l => cases hp
      | c => exact .inl (AClean_ok hT hS hx fun φ F s a w' h1 h2 h3 => ⟨fun _ => h3, ih _ _ _ _ _ h1 h2⟩)
      | x =>
        have hds : i ∈ ds := by simpa [aloneB] using hp
        exact .inl (AOp_ok hT hS hx fun φ F s a w' h1 h2 => ⟨fun hn => absurd hds hn, ih _ _ _ _ _ h1 h2⟩)
    · rw [if_neg (by rw [hw]; simp)]
      exact ⟨fun _ => Below.refl _ _, ih _ _ _ _ _ (undefS hS hx.1) hx.2⟩
  intro pl
  induction pl with
  | nil =>
    intro listed φ F s a w hp hS h
    simp only [planB, beq_iff_eq] at hp
    exact ⟨hp, φ, F, s, hS, hK F s h⟩
  | two i k rest j l q ih1 ih2 =>
    intro listed φ F s a w hp hS h
    simp only [planB, Bool.and_eq_true, beq_iff_eq] at hp
    obtain ⟨⟨⟨⟨⟨hp1, hp2⟩, hp3⟩, hp4⟩, hp5⟩, hp6⟩ := hp
    obtain ⟨h1, h2⟩ := h
    refine ⟨fun h0 => (by rw [hp1] at h0; cases h0), fun n hn => ?_⟩
    rw [hp1] at hn
    have : n = i ∨ n = j := by simpa using hn
    rcases this with rfl | rfl
    · exact one rest listed n k φ F s a w hp2 hS h1 fun φ F s a w => ih1 _ φ F s a w hp5
    · have := one q listed n l φ F s a w hp3 hS h2 fun φ F s a w => ih2 _ φ F s a w hp6
      rwa [← hp4] at this
  | go i k rest ih0 =>
    intro listed φ F s a w hp hS h
    simp only [planB, Bool.and_eq_true] at hp
    obtain ⟨hp1, hp2⟩ := hp
    have ih := fun φ F s a w => ih0 (listed.setIfInBounds i true) φ F s a w hp2
    have alone : Region.ready .any ops listed = [i] → aloneB ds i k = true → wpG P .any ops (Lift N Im φ0 s0 w0 B Q) ds (rest.len + 1) listed a w := fun hr ha => by
      refine ⟨fun h0 => (by rw [hr] at h0; cases h0), fun j hj => ?_⟩
      rw [hr] at hj
      have : j = i := by simpa using hj
      subst this
      exact one rest listed j k φ F s a w ha hS h ih
    simp only [APlan] at h
    obtain ⟨o, ho, h⟩ := bindO_spec h
    have hguard : (Region.wanted o (yielded ops a.tmps) = true ∧ AOpK P T N k o F s (APlan P T N ops K rest)) ∨ (Region.wanted o (yielded ops a.tmps) = false ∧ dstOk N o.dst ∧ APlan P T N ops K rest (updO F o.dst (.tup [])) s) := AGuard_ok hS h
    have hQ : ∀ (v : Value) (c : List PanicEntry) (a : Act) (w : World), Lift N Im φ0 s0 w0 B Q (.panic c) (a.put o.dst v) w → Lift N Im φ0 s0 w0 B Q (.panic c) a w := fun _ _ _ _ h => h.elim
    have first : ∀ v, Region.free .any ops listed i = true → (Region.ready .any ops listed).contains i = true → (Yields P ops o v a ∨ (LClosed .any ops listed ∧ (∀ d ∈ ds, listed.getD d true = false → reachB .any ops i ops.size d = true) ∧ YieldsIf P ops (Below w.heap.size w) o v a)) →
        wpG P .any ops (Lift N Im φ0 s0 w0 B Q) ds rest.len (listed.setIfInBounds i true) (a.put o.dst v) w → wpG P .any ops (Lift N Im φ0 s0 w0 B Q) ds (rest.len + 1) listed a w := fun v hf hr hy hh =>
      wpG_first ho (Region.noSelect_spec hns) (hQ v) ops.size _ _ _ _ (Region.free_spec ho hf) (by simpa using hr) hy hh
    have off : dstOk N o.dst ∧ APlan P T N ops K rest (updO F o.dst (.tup [])) s → Region.wanted o (yielded ops a.tmps) = false → wpG P .any ops (Lift N Im φ0 s0 w0 B Q) ds rest.len (listed.setIfInBounds i true) (a.put o.dst undef) w := fun h _ => ih _ _ _ _ _ (undefS hS h.1) h.2
    cases k with
    | p =>
      simp only [Bool.and_eq_true] at hp1
      rcases hguard with ⟨hw, hx⟩ | ⟨hw, hx⟩
      · obtain ⟨h2, hx⟩ := hx
        obtain ⟨x, h1, h3⟩ := bindO_spec hx
        obtain ⟨v, k1, k2⟩ := evP_ok hT hS.holds h1
        exact first v hp1.1 hp1.2 (.inl (.inl ⟨hw, k1⟩)) (ih _ _ _ _ _ (hS.put (Step.refl ..) hS.inv k2 h2) h3)
      · exact first undef hp1.1 hp1.2 (.inl (.inr ⟨hw, rfl⟩)) (off hx hw)
    | l =>
      simp only [Bool.and_eq_true] at hp1
      obtain ⟨⟨⟨hf, hr⟩, hc⟩, hl⟩ := hp1
      have hd : ∀ d ∈ ds, listed.getD d true = false → reachB .any ops i ops.size d = true := fun d hm hun => by have := List.all_eq_true.1 hl d hm; rw [hun] at this; simpa using this
      rcases hguard with ⟨hw, hx⟩ | ⟨hw, hx⟩
      · simp only [AOpK, ALoad] at hx
        split at hx
        · rename_i t p hop
          obtain ⟨h2, hx⟩ := hx
          obtain ⟨x, h1, h3⟩ := bindO_spec hx
          obtain ⟨v, k1, k2⟩ := loadAV_ok hT hS.inv h1 (look_ok hS.holds p)
          refine first v hf hr (.inr ⟨closedB_spec hc, hd, .inl ⟨hw, fun w' hb => ?_⟩⟩) (ih _ _ _ _ _ (hS.put (Step.refl ..) hS.inv k2 h2) h3)
          simp [execOp, hop, k1 w' hb]
        · rename_i t1 t2 p hop
          obtain ⟨h2, hx⟩ := hx
          obtain ⟨x, h1, h3⟩ := bindO_spec hx
          obtain ⟨v, k1, k2⟩ := bytesAV_ok hT hS.inv h1 (look_ok hS.holds p)
          refine first v hf hr (.inr ⟨closedB_spec hc, hd, .inl ⟨hw, fun w' hb => ?_⟩⟩) (ih _ _ _ _ _ (hS.put (Step.refl ..) hS.inv k2 h2) h3)
          simp [execOp, hop, k1 w' hb]
        · exact hx.elim
      · exact first undef hf hr (.inl (.inr ⟨hw, rfl⟩)) (off hx hw)
    | c =>
      simp only [Bool.and_eq_true, beq_iff_eq] at hp1
      exact alone hp1.1 hp1.2
    | x =>
      simp only [Bool.and_eq_true, beq_iff_eq] at hp1
      exact alone hp1.1 hp1.2
end

/-! ### Code -/
def AW (P : Program) (T : Tab) (N : Nat) : Code → (Exit → Fr → St → Prop) → Fr → St → Prop
  | .skip, Q, F, s => Q .normal F s
  | .region _ ops false, Q, F, s => AOps P T N ops (Q .normal) ops.toList F s
  | .region _ ops true, Q, F, s => ADraw P T N ops (Q .normal) F s
  | .seq x y, Q, F, s => AW P T N x (fun e F s => match e with | .normal => AW P T N y Q F s | e => Q e F s) F s
  | .cond c x y, Q, F, s => condP (look F c) (AW P T N x Q F s) (AW P T N y Q F s)
  | .block id x, Q, F, s => AW P T N x (fun e F s => match e with | .exit i => if i = id then Q .normal F s else Q (.exit i) F s | e => Q e F s) F s
  | .loop x, Q, F, s => ∃ (I : Fr → St → Prop) (μ : Fr → St → Nat), Wk I F s ∧ ∀ F s, I F s → AW P T N x (fun e F' s' => match e with | .normal => Wk (fun F' s' => I F' s' ∧ μ F' s' < μ F s) F' s' | e => Q e F' s') F s
  | .exit id, Q, F, s => Q (.exit id) F s
  | .ret, Q, F, s => Q .ret F s
  | _, _, _, _ => False

theorem wp_loop' {P : Program} {Q : Exit → Act → World → Prop} {c : Code} (J : Nat → Act → World → Prop) {n : Nat} {a : Act} {w : World} (h₀ : J n a w)
    (round : ∀ n a w, J n a w → c.wp P (Exit.then (fun a' w' => ∃ m, m < n ∧ J m a' w') Q) a w) : (Code.loop c).wp P Q a w := by
  intro b k cs
  have key : ∀ n a w, J n a w → ∃ e a' w', Q e a' w' ∧ Arrives P (lone (b.at a (.code c :: .inLoop c :: k)) cs w) b k cs e a' w' := by
    intro n
    induction n using Nat.strongRecOn with
    | _ n ih =>
      intro a w hI
      obtain ⟨e, a₁, w₁, hq, harr⟩ := round n a w hI b (.inLoop c :: k) cs
      cases e with
      | normal =>
        obtain ⟨m, hlt, hI₁⟩ := hq
        obtain ⟨e₂, a₂, w₂, hq₂, harr₂⟩ := ih m hlt a₁ w₁ hI₁
        exact ⟨e₂, a₂, w₂, hq₂, .of_steps (Steps.trans harr (.one step_inLoop)) harr₂⟩
      | exit id => exact ⟨_, a₁, w₁, hq, .pass (x := .inLoop c) rfl (fun _ _ => .inl (by simp)) harr⟩
      | goto l => exact ⟨_, a₁, w₁, hq, .pass (x := .inLoop c) rfl (fun _ _ => .inl (by simp)) harr⟩
      | ret => exact ⟨_, a₁, w₁, hq, .pass (x := .inLoop c) rfl (fun _ _ => .inl (by simp)) harr⟩
      | panic ch => exact ⟨_, a₁, w₁, hq, .pass (x := .inLoop c) rfl (fun _ _ => .inl (by simp)) harr⟩
      | outgrown => exact ⟨_, a₁, w₁, hq, .pass (x := .inLoop c) rfl (fun _ _ => .inl (by simp)) harr⟩
  obtain ⟨e, a', w', hq, harr⟩ := key _ a w h₀
  exact ⟨e, a', w', hq, .of_steps (.one step_loop) harr⟩

section
variable {P : Program} {T : Tab} (hT : TabOk P T) (hm : P.follows .mixedOrders = true) {N : Nat} {Im : Nat → Prop} {φ0 : Emb} {s0 : St} {w0 : World} {B : Nat}
include hT hm
theorem AW_ok : ∀ (c : Code) (Q : Exit → Fr → St → Prop) (φ : Emb) (F : Fr) (s : St) (a : Act) (w : World), Sim N Im φ0 s0 w0 B φ F s a w → AW P T N c Q F s → c.wp P (Lift N Im φ0 s0 w0 B Q) a w
  | .skip, Q, φ, F, s, a, w, hS, h => wp_skip ⟨φ, F, s, hS, h⟩
  | .region id ops false, Q, φ, F, s, a, w, hS, h => wp_region (AOps_all hT (fun φ F s a w h1 h2 => ⟨φ, F, s, h1, h2⟩) _ _ _ _ _ hS h)
  | .region id ops true, Q, φ, F, s, a, w, hS, h => by
    obtain ⟨ds, pl, hp, h⟩ := h
    simp only [planOk, Bool.and_eq_true, decide_eq_true_eq] at hp
    obtain ⟨⟨hp1, hp2⟩, hp3⟩ := hp
    refine wp_region_any hm ?_
    have hS' : Sim N Im φ0 s0 w0 B φ F s a { w with drawn := w.drawn + 1 } := by
      have hst : Step B φ s w φ s { w with drawn := w.drawn + 1 } :=
        ⟨Nat.le_refl _, Nat.le_refl _, fun _ _ => rfl, fun _ _ _ xs' _ h => ⟨⟨xs', h, rfl⟩, rfl, fun _ h => h⟩, fun _ _ h => ⟨rfl, h⟩, ⟨rfl, rfl, rfl, Nat.le_refl _, fun _ _ => rfl⟩, Nat.le_succ _⟩
      exact ⟨hS.holds.step hst, hS.size, hS.defers, ⟨hS.inv.hB, hS.inv.bnd, hS.inv.bxinj, hS.inv.rwinj, hS.inv.bxrw, fun b ty cs hb => by
        obtain ⟨vs, k1, k2, k3⟩ := hS.inv.cells b ty cs hb
        exact ⟨vs, k1, relL_step hst _ _ k2, k3⟩, fun n e sz xs hl => RowOk.step hst (RowOk.later (hS.inv.rows n e sz xs hl) fun _ _ => rfl)⟩, hS.step.trans hst⟩
    have hG := APlan_ok hT hp1 (K := Q .normal) (Q := Q) (fun F s h => h) pl _ φ F s a _ hp2 hS' h
    have more : ∀ (fuel n : Nat) (listed : Array Bool) (a : Act) (w : World), wpG P .any ops (Lift N Im φ0 s0 w0 B Q) ds fuel listed a w → wpG P .any ops (Lift N Im φ0 s0 w0 B Q) ds (fuel + n) listed a w := by
      intro fuel n
      induction fuel with
      | zero =>
        intro listed a w h
        cases n with
        | zero => exact h
        | succ n =>
          rw [Nat.zero_add]
          exact ⟨fun _ => h.2, fun i hi => by rw [h.1] at hi; cases hi⟩
      | succ fuel ih =>
        intro listed a w h
        rw [Nat.add_right_comm]
        exact ⟨h.1, fun i hi => wpOp_mono (fun a' w' h' => ⟨h'.1, ih _ _ _ h'.2⟩) (h.2 i hi)⟩
    have hG' := more _ (ops.size - pl.len) _ _ _ hG
    rw [Nat.add_sub_cancel' hp3] at hG'
    exact wpAny_of_G _ _ _ _ hG'
  | .seq x y, Q, φ, F, s, a, w, hS, h => by
    refine wp_seq (wp_mono (AW_ok x _ φ F s a w hS h) fun e a w hh => ?_)
    cases e with
    | normal => obtain ⟨φ', F', s', h1, h2⟩ := hh; exact AW_ok y Q φ' F' s' a w h1 h2
    | _ => exact hh
  | .cond c x y, Q, φ, F, s, a, w, hS, h => by
    obtain ⟨b, hc, h1, h2⟩ := condP_spec h (look_ok hS.holds c)
    exact wp_cond_split hc (fun e => AW_ok x Q φ F s a w hS (h1 e)) (fun e => AW_ok y Q φ F s a w hS (h2 e))
  | .block id x, Q, φ, F, s, a, w, hS, h => by
    refine wp_block (wp_mono (AW_ok x _ φ F s a w hS h) fun e a w hh => ?_)
    cases e with
    | exit i =>
      obtain ⟨φ', F', s', h1, h2⟩ := hh
      simp only [Exit.inBlock]
      simp only at h2
      split at h2
      · rename_i he
        rw [if_pos he]
        exact ⟨φ', F', s', h1, h2⟩
      · rename_i he
        rw [if_neg he]
        exact ⟨φ', F', s', h1, h2⟩
    | _ => exact hh
  | .loop x, Q, φ, F, s, a, w, hS, h => by
    obtain ⟨I, μ, ⟨F1, s1, hW, h0⟩, hr⟩ := h
    obtain ⟨φ1, hS1⟩ := hW _ _ _ _ _ _ _ _ _ hS
    refine wp_loop' (fun n a w => ∃ φ F s, Sim N Im φ0 s0 w0 B φ F s a w ∧ I F s ∧ μ F s = n) ⟨φ1, F1, s1, hS1, h0, rfl⟩ ?_
    rintro n a w ⟨φ, F, s, hS, hI, rfl⟩
    refine wp_mono (AW_ok x _ φ F s a w hS (hr F s hI)) fun e a w hh => ?_
    cases e with
    | normal =>
      obtain ⟨φ', F', s', h1, F2, s2, hW2, h2, h3⟩ := hh
      obtain ⟨φ2, hS2⟩ := hW2 _ _ _ _ _ _ _ _ _ h1
      exact ⟨_, h3, φ2, F2, s2, hS2, h2, rfl⟩
    | _ => exact hh
  | .exit id, Q, φ, F, s, a, w, hS, h => wp_exit ⟨φ, F, s, hS, h⟩
  | .ret, Q, φ, F, s, a, w, hS, h => wp_ret ⟨φ, F, s, hS, h⟩
end
end Go.Proofs.YtknbhgcjgkejiaaV
