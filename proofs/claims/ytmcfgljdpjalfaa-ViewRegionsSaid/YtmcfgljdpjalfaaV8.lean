/- The abstract layer, eighth text: regions that draw their order; code. -/
import Derived.Test.YtmcfgljdpjalfaaV7
import Derived.OrdersHeld
set_option linter.unusedVariables false
set_option linter.unusedSimpArgs false
set_option linter.constructorNameAsVariable false
set_option linter.unusedSectionVars false
namespace Go.Proofs.YtmcfgljdpjalfaaV
open Go.RowKit

/-! ### A region that draws: whatever order is picked; each operation that is not of ds leaves all that was as it was -/
section
variable {P : Program} {ops : Array Oper} {Q : Exit → Act → World → Prop} {md : Region.Mode} {ds : List Nat}
def reachB (md : Region.Mode) (ops : Array Oper) (i : Nat) : Nat → Nat → Bool
  | 0, _ => false
  | fuel + 1, d => match ops[d]? with
    | some o => o.after.any fun e => Region.binds md e && (e.on == i || reachB md ops i fuel e.on)
    | none => false
def closedB (md : Region.Mode) (ops : Array Oper) (listed : Array Bool) : Bool :=
  (List.range ops.size).all fun j => !listed.getD j false || match ops[j]? with
    | some o => o.after.all fun e => !Region.binds md e || listed.getD e.on false
    | none => true
def lastB (md : Region.Mode) (ops : Array Oper) (listed : Array Bool) (ds : List Nat) (i : Nat) : Bool :=
  ds.all fun d => listed.getD d true || reachB md ops i ops.size d
def LClosed (md : Region.Mode) (ops : Array Oper) (listed : Array Bool) : Prop :=
  ∀ j oj, ops[j]? = some oj → listed.getD j false = true → ∀ e ∈ oj.after, Region.binds md e = true → listed.getD e.on false = true

theorem closedB_spec {listed : Array Bool} (h : closedB md ops listed = true) : LClosed md ops listed := by
  intro j oj hj hl e he hb
  have hlt : j < ops.size := (Array.getElem?_eq_some_iff.1 hj).1
  have h1 := List.all_eq_true.1 h j (List.mem_range.2 hlt)
  simp only [hl, hj, Bool.not_true, Bool.false_or] at h1
  have h2 := Array.all_eq_true_iff_forall_mem.1 h1 e he
  simpa [hb] using h2
theorem LClosed.set {listed : Array Bool} {i : Nat} (h : LClosed md ops listed) (hi : i ∈ Region.ready md ops listed) : LClosed md ops (listed.setIfInBounds i true) := by
  obtain ⟨_, oi, hoi, hall⟩ := mem_ready.1 hi
  intro j oj hj hl e he hb
  by_cases hij : i = j
  · subst hij
    have : oj = oi := Option.some.inj (hj.symm.trans hoi)
    subst this
    exact getD_set_true (hall e he hb)
  · rw [getD_set_ne false hij] at hl
    exact getD_set_true (h j oj hj hl e he hb)
theorem reach_listed {listed : Array Bool} {i : Nat} (hc : LClosed md ops listed) : ∀ (fuel d : Nat), reachB md ops i fuel d = true → listed.getD d false = true → listed.getD i false = true
  | 0, _, h, _ => by simp [reachB] at h
  | fuel + 1, d, h, hl => by
    unfold reachB at h
    cases ho : ops[d]? with
    | none => rw [ho] at h; simp at h
    | some o =>
      rw [ho] at h
      obtain ⟨e, he, h1⟩ := Array.any_eq_true'.1 h
      simp only [Bool.and_eq_true, Bool.or_eq_true, beq_iff_eq] at h1
      have hle := hc d o ho hl e he h1.1
      rcases h1.2 with h2 | h2
      · rw [← h2]; exact hle
      · exact reach_listed hc fuel e.on h2 hle
theorem reach_not_ready {listed : Array Bool} {i d fuel : Nat} (hc : LClosed md ops listed) (hr : reachB md ops i fuel d = true) (hun : listed.getD i true = false) : d ∉ Region.ready md ops listed := by
  intro hd
  obtain ⟨_, o, ho, hall⟩ := mem_ready.1 hd
  have hi : listed.getD i false = true := by
    cases fuel with
    | zero => simp [reachB] at hr
    | succ n =>
      unfold reachB at hr
      rw [ho] at hr
      obtain ⟨e, he, h1⟩ := Array.any_eq_true'.1 hr
      simp only [Bool.and_eq_true, Bool.or_eq_true, beq_iff_eq] at h1
      have hle := hall e he h1.1
      rcases h1.2 with h2 | h2
      · rw [← h2]; exact hle
      · exact reach_listed hc n e.on h2 hle
  rcases Nat.lt_or_ge i listed.size with h' | h'
  · simp [h'] at hun hi
    rw [hun] at hi
    cases hi
  · simp [Array.getElem?_eq_none h'] at hun

def wpG (P : Program) (md : Region.Mode) (ops : Array Oper) (Q : Exit → Act → World → Prop) (ds : List Nat) : Nat → Array Bool → Act → World → Prop
  | 0, listed, a, w => Region.ready md ops listed = [] ∧ Q .normal a w
  | fuel + 1, listed, a, w =>
    (Region.ready md ops listed = [] → Q .normal a w) ∧
    ∀ i ∈ Region.ready md ops listed, wpOp P ops Q i (fun a' w' => (i ∉ ds → Below w.heap.size w w') ∧ wpG P md ops Q ds fuel (listed.setIfInBounds i true) a' w') a w
theorem wpAny_of_G : ∀ (fuel : Nat) (listed : Array Bool) (a : Act) (w : World), wpG P md ops Q ds fuel listed a w → wpAny P md ops Q fuel listed a w
  | 0, _, _, _, h => h
  | fuel + 1, _, _, _, h => ⟨h.1, fun i hi => wpOp_mono (fun a' w' h' => wpAny_of_G fuel _ a' w' h'.2) (h.2 i hi)⟩

theorem yieldsIf_later {o : Oper} {v : Value} {a : Act} {w w' : World} (h : YieldsIf P ops (Below w.heap.size w) o v a) (hb : Below w.heap.size w w') : YieldsIf P ops (Below w'.heap.size w') o v a :=
  h.imp (fun ⟨h1, h2⟩ => ⟨h1, fun w'' hw => h2 w'' (hb.trans (hw.mono hb.size))⟩) id

/-- An operation that may come up now may be taken first, if it yields its value in whatever world, or in every later world and what may change memory waits for it. -/
theorem wpG_first {i : Nat} {oi : Oper} {v : Value} (hi : ops[i]? = some oi) (hsel : ∀ (j : Nat) (o : Oper) cs b, ops[j]? = some o → o.op ≠ .select cs b)
    (hQ : ∀ c a w, Q (.panic c) (a.put oi.dst v) w → Q (.panic c) a w) (n : Nat) :
    ∀ (fuel : Nat) (listed : Array Bool) (a : Act) (w : World),
      (∀ j oj, ops[j]? = some oj → j ≠ i → listed.getD j true = false → (∀ e ∈ oj.after, Region.binds md e = true → e.on ≠ i) → oi.apart ops oj = true) →
      i ∈ Region.ready md ops listed → (Yields P ops oi v a ∨ (LClosed md ops listed ∧ (∀ d ∈ ds, listed.getD d true = false → reachB md ops i n d = true) ∧ YieldsIf P ops (Below w.heap.size w) oi v a)) →
      wpG P md ops Q ds fuel (listed.setIfInBounds i true) (a.put oi.dst v) w → wpG P md ops Q ds (fuel + 1) listed a w := by
  intro fuel
  have now : ∀ (listed : Array Bool) (a : Act) (w : World), (Yields P ops oi v a ∨ (LClosed md ops listed ∧ (∀ d ∈ ds, listed.getD d true = false → reachB md ops i n d = true) ∧ YieldsIf P ops (Below w.heap.size w) oi v a)) →
      YieldsIf P ops (Below w.heap.size w) oi v a := by
    rintro listed a w (h | ⟨_, _, h⟩)
    · exact h.yieldsIf
    · exact h
  induction fuel with
  | zero =>
    intro listed a w _ hr hy H
    refine ⟨fun h => (by rw [h] at hr; cases hr), fun j hj => ?_⟩
    by_cases hji : j = i
    · subst hji; exact (now _ _ _ hy).wpOp hi (Below.refl _ _) ⟨fun _ => Below.refl _ _, H⟩
    · have := ready_mono hj hji
      rw [H.1] at this
      cases this
  | succ fuel ih =>
    intro listed a w hfree hr hy H
    refine ⟨fun h => (by rw [h] at hr; cases hr), fun j hj => ?_⟩
    by_cases hji : j = i
    · subst hji; exact (now _ _ _ hy).wpOp hi (Below.refl _ _) ⟨fun _ => Below.refl _ _, H⟩
    · have h1 := H.2 j (ready_mono hj hji)
      obtain ⟨hjun, oj, hoj, hall⟩ := mem_ready.1 hj
      have hiun := (mem_ready.1 hr).1
      have hnot : ∀ e ∈ oj.after, Region.binds md e = true → e.on ≠ i := fun e he hb heq => by
        have h1 := hall e he hb
        rw [heq] at h1
        rcases Nat.lt_or_ge i listed.size with h' | h'
        · simp [h'] at hiun h1; rw [hiun] at h1; cases h1
        · simp [Array.getElem?_eq_none h'] at h1
      have hfree' : ∀ k ok, ops[k]? = some ok → k ≠ i → (listed.setIfInBounds j true).getD k true = false →
          (∀ e ∈ ok.after, Region.binds md e = true → e.on ≠ i) → oi.apart ops ok = true := fun k ok hk hki hun hno => by
        refine hfree k ok hk hki ?_ hno
        by_cases hjk : j = k
        · subst hjk; exact hjun
        · rw [getD_set_ne true hjk] at hun; exact hun
      have hap := hfree j oj hoj hji hjun hnot
      rcases hy with hy | ⟨hc, hd, hy⟩
      · have h2 := wpOp_put hoj hap (fun cs b => hsel i oi cs b hi) (fun cs b => hsel j oj cs b hoj) hQ hy h1
        refine wpOp_mono (fun a' w' h3 => ⟨h3.2.1, ih (listed.setIfInBounds j true) a' w' hfree' (ready_mono hr (Ne.symm hji)) (.inl h3.1) ?_⟩) h2
        rw [Array.setIfInBounds_comm _ _ hji]
        exact h3.2.2
      · have h2 := wpOp_putIf hoj hap (fun cs b => hsel i oi cs b hi) (fun cs b => hsel j oj cs b hoj) hQ hy h1
        have hjd : j ∉ ds := fun hm => reach_not_ready hc (hd j hm hjun) hiun hj
        have hd' : ∀ d ∈ ds, (listed.setIfInBounds j true).getD d true = false → reachB md ops i n d = true := fun d hm hun => by
          refine hd d hm ?_
          by_cases hjk : j = d
          · subst hjk; exact hjun
          · rw [getD_set_ne true hjk] at hun; exact hun
        refine wpOp_mono (fun a' w' h3 => ⟨h3.2.1, ih (listed.setIfInBounds j true) a' w' hfree' (ready_mono hr (Ne.symm hji)) (.inr ⟨hc.set hj, hd', yieldsIf_later h3.1 (h3.2.1 hjd)⟩) ?_⟩) h2
        rw [Array.setIfInBounds_comm _ _ hji]
        exact h3.2.2
end

/-- How an operation of such a region is told: it looks at no memory; it loads; it makes new memory alone; anything else. -/
inductive PK where | p | l | c | x
  deriving DecidableEq

def callC (P : Program) (g : Nat) (s : St) (args : List AV) (K : St → AV → Prop) : Prop := ∃ R, Fclean P g s args R ∧ ∀ s' r, R s' r → K s' r
theorem callC_congr {P : Program} {g g' : Nat} {s s' : St} {args args' : List AV} (h1 : g = g') (h2 : s = s') (h3 : args = args') (K : St → AV → Prop) : callC P g s args K = callC P g' s' args' K := by rw [h1, h2, h3]
def AClean (P : Program) (T : Tab) (N : En) (o : Oper) (F : Fr) (s : St) (K : Fr → St → Prop) : Prop :=
  match o.op with
  | .call c => match c.callee with
    | .value f => dstOk N.n o.dst ∧ Wk (fun F s => bindO (fnOf (look F f)) fun p => callC P p.1 s (c.args.toList.map (look F) ++ p.2) fun s' r => K (updO F o.dst r) s') F s
    | _ => False
  | .makeMap t none => dstOk N.n o.dst ∧ bindO (makeMapAV T s t) fun p => K (updO F o.dst p.1) p.2
  | op => isNew op = true ∧ dstOk N.n o.dst ∧ bindO (evE T F s op) fun p => K (updO F o.dst p.1) p.2
def ALoad (T : Tab) (N : En) (o : Oper) (F : Fr) (s : St) (K : Fr → St → Prop) : Prop :=
  match o.op with
  | .load t a => dstOk N.n o.dst ∧ bindO (loadAV T s t (look F a)) fun x => K (updO F o.dst x) s
  | .convert a b x => dstOk N.n o.dst ∧ bindO (bytesAV T s a b (look F x)) fun x => K (updO F o.dst x) s
  | .lookup t m k ok => dstOk N.n o.dst ∧ bindO (lookupAV T s t (look F m) (look F k) ok) fun x => K (updO F o.dst x) s
  | _ => False
def AOpK (P : Program) (T : Tab) (N : En) (k : PK) (o : Oper) (F : Fr) (s : St) (K : Fr → St → Prop) : Prop :=
  match k with
  | .p => dstOk N.n o.dst ∧ bindO (evP T F s o.op) fun x => K (updO F o.dst x) s
  | .l => ALoad T N o F s K
  | .c => AClean P T N o F s K
  | .x => AOp P T N o F s K

/-- A plan: which operation comes up, one after the other; where two may come up, both ways. -/
inductive Pl where
  | nil
  | go (i : Nat) (k : PK) (r : Pl)
  | two (i : Nat) (k : PK) (r : Pl) (j : Nat) (l : PK) (q : Pl)
def Pl.len : Pl → Nat
  | .nil => 0
  | .go _ _ r => r.len + 1
  | .two _ _ r _ _ _ => r.len + 1
def APlan (P : Program) (T : Tab) (N : En) (ops : Array Oper) (K : Fr → St → Prop) : Pl → Fr → St → Prop
  | .nil, F, s => K F s
  | .go i k rest, F, s => bindO (ops[i]?) fun o => AGuard N ops o F (AOpK P T N.noY k o F s (APlan P T N ops K rest)) (APlan P T N ops K rest (updO F o.dst (.tup [])) s)
  | .two i k rest j l q, F, s => (bindO (ops[i]?) fun o => AGuard N ops o F (AOpK P T N.noY k o F s (APlan P T N ops K rest)) (APlan P T N ops K rest (updO F o.dst (.tup [])) s)) ∧
      (bindO (ops[j]?) fun o => AGuard N ops o F (AOpK P T N.noY l o F s (APlan P T N ops K q)) (APlan P T N ops K q (updO F o.dst (.tup [])) s))

/-- The static check of a plan. -/
def aloneB (ds : List Nat) (i : Nat) : PK → Bool
  | .c => !ds.contains i
  | .x => ds.contains i
  | _ => false
def planB (md : Region.Mode) (ops : Array Oper) (ds : List Nat) : Array Bool → Pl → Bool
  | listed, .nil => Region.ready md ops listed == []
  | listed, .go i k rest =>
    (match k with
    | .p => Region.free md ops listed i && (Region.ready md ops listed).contains i
    | .l => Region.free md ops listed i && (Region.ready md ops listed).contains i && closedB md ops listed && lastB md ops listed ds i
    | k => (Region.ready md ops listed == [i]) && aloneB ds i k) && planB md ops ds (listed.setIfInBounds i true) rest
  | listed, .two i k rest j l q => (Region.ready md ops listed == [i, j]) && aloneB ds i k && aloneB ds j l && (rest.len == q.len) && planB md ops ds (listed.setIfInBounds i true) rest && planB md ops ds (listed.setIfInBounds j true) q
def noDefer (ops : Array Oper) : Bool := ops.all fun o => match o.op with | .defer _ => false | _ => true
def planOk (ops : Array Oper) (ds : List Nat) (pl : Pl) : Bool := noDefer ops && Region.noSelect ops && planB .any ops ds (Array.replicate ops.size false) pl && pl.len ≤ ops.size
def ADraw (P : Program) (T : Tab) (N : En) (ops : Array Oper) (K : Fr → St → Prop) (F : Fr) (s : St) : Prop :=
  ∃ ds pl, planOk ops ds pl = true ∧ APlan P T N ops K pl F s

section
variable {P : Program} {T : Tab} (hT : TabOk P T) {N : En} {Im : Nat → Prop} {φ0 : Emb} {s0 : St} {w0 : World} {B : Nat}
include hT
theorem AClean_ok {φ : Emb} {F : Fr} {s : St} {a : Act} {w : World} {o : Oper} {K : Fr → St → Prop} (hS : Sim N Im φ0 s0 w0 B φ F s a w) (h : AClean P T N o F s K) {next : Act → World → Prop} {Q : Exit → Act → World → Prop}
    (hn : ∀ φ F s a w', Sim N Im φ0 s0 w0 B φ F s a w' → K F s → Below w.heap.size w w' → next a w') : o.wp P a w next Q := by
  unfold Oper.wp
  unfold AClean at h
  split at h
  · rename_i c hop
    split at h
    · rename_i f hc
      obtain ⟨h3, F1, s1, hW, h⟩ := h
      obtain ⟨φ1, hS⟩ := hW _ _ _ _ _ _ _ _ _ hS
      obtain ⟨p, hp, R, ⟨hen, h2⟩, h4⟩ := bindO_spec h
      have h1 : look F1 f = .fn p.1 p.2 := by
        unfold fnOf at hp
        split at hp
        · rename_i g caps hg; injection hp with hp; subst hp; exact hg
        · cases hp
      have hf := look_ok hS.holds f
      rw [h1] at hf
      simp only [rel] at hf
      obtain ⟨cs, hcs, hrc⟩ := hf
      have hargs : relL Im φ1 s1 B w (c.args.toList.map (look F1) ++ p.2) (c.args.toList.map a.eval ++ cs) := relL_append _ _ _ _ (relL_map hS.holds _) hrc
      have hcall := h2 Im φ1 B w _ hS.inv hargs
      have hrun : (execOp a.eval o).run P w = .ok (.enter p.1 (c.args.toList.map a.eval ++ cs).toArray) w := by
        have : (c.args.toList.map a.eval ++ cs).toArray = #[] ++ c.args.map a.eval ++ cs.toArray := by
          apply Array.ext'
          simp
        rw [this]
        simp [execOp, hop, resolve, hc, hcs, Deferred.ofValue, invoke]
        exact hen _ _
      rw [hrun, Oper.upon_enter]
      refine hcall.mono fun e w' hh => ?_
      obtain ⟨φ', s', r, v, rfl, k1, k2, k3, k4, k5⟩ := hh
      exact hn _ _ _ _ _ (hS.put k1 k2 k3 h3) (h4 s' r k4) k5
    · exact h.elim
  · rename_i t hop
    obtain ⟨h2, h⟩ := h
    obtain ⟨p, h1, h3⟩ := bindO_spec h
    obtain ⟨φ', v, w', k1, k2, k3, k4, k5⟩ := makeMap_ok hT hS.inv h1
    have hrun : (execOp a.eval o).run P w = .ok (.value v) w' := by simp [execOp, hop, k1]
    rw [hrun, Oper.upon_value]
    exact hn _ _ _ _ _ (hS.put k2 k3 k4 h2) h3 k5
  · obtain ⟨h0, h2, h⟩ := h
    obtain ⟨p, h1, h3⟩ := bindO_spec h
    obtain ⟨φ', v, w', k1, k2, k3, k4, k5⟩ := evE_ok hT hS.inv hS.holds h1
    rw [k1, Oper.upon_value]
    exact hn _ _ _ _ _ (hS.put k2 k3 k4 h2) h3 (k5 h0)

theorem APlan_ok {ops : Array Oper} {ds : List Nat} (hns : Region.noSelect ops = true) {K : Fr → St → Prop} {Q : Exit → Fr → St → Prop} (hK : ∀ F s, K F s → Q .normal F s) :
    ∀ (pl : Pl) (listed : Array Bool) (φ : Emb) (F : Fr) (s : St) (a : Act) (w : World), planB .any ops ds listed pl = true → Sim N Im φ0 s0 w0 B φ F s a w → APlan P T N ops K pl F s →
      wpG P .any ops (Lift N Im φ0 s0 w0 B Q) ds pl.len listed a w := by
  have undefS : ∀ {φ : Emb} {F : Fr} {s : St} {a : Act} {w : World} {o : Oper}, Sim N Im φ0 s0 w0 B φ F s a w → dstOk N.n o.dst → Sim N Im φ0 s0 w0 B φ (updO F o.dst (.tup [])) s (a.put o.dst undef) w :=
    fun hS hd => hS.put (Step.refl ..) hS.inv (x := .tup []) (v := undef) (by simp [rel, relL, undef]) hd
  -- an operation that comes up alone, or beside another one
  have one : ∀ (rest : Pl) (listed : Array Bool) (i : Nat) (k : PK) (φ : Emb) (F : Fr) (s : St) (a : Act) (w : World), aloneB ds i k = true → Sim N Im φ0 s0 w0 B φ F s a w →
      (bindO (ops[i]?) fun o => AGuard N ops o F (AOpK P T N.noY k o F s (APlan P T N ops K rest)) (APlan P T N ops K rest (updO F o.dst (.tup [])) s)) →
      (∀ (φ : Emb) (F : Fr) (s : St) (a : Act) (w : World), Sim N Im φ0 s0 w0 B φ F s a w → APlan P T N ops K rest F s → wpG P .any ops (Lift N Im φ0 s0 w0 B Q) ds rest.len (listed.setIfInBounds i true) a w) →
      wpOp P ops (Lift N Im φ0 s0 w0 B Q) i (fun a' w' => (i ∉ ds → Below w.heap.size w w') ∧ wpG P .any ops (Lift N Im φ0 s0 w0 B Q) ds rest.len (listed.setIfInBounds i true) a' w') a w := by
    intro rest listed i k φ F s a w hp hS h ih
    obtain ⟨o, ho, h⟩ := bindO_spec h
    have hguard := AGuard_ok hS h
    unfold wpOp
    simp only [ho]
    rcases hguard with ⟨hw, hx⟩ | ⟨hw, hx⟩
    · rw [if_pos hw]
      cases k with
      | p => cases hp
      | l => cases hp
      | c => exact .inl (AClean_ok hT hS.noY hx fun φ F s a w' h1 h2 h3 => ⟨fun _ => h3, ih _ _ _ _ _ h1.ofNoY h2⟩)
      | x =>
        have hds : i ∈ ds := by simpa [aloneB] using hp
        exact .inl (AOp_ok hT rfl hS.noY hx fun φ F s a w' h1 h2 => ⟨fun hn => absurd hds hn, ih _ _ _ _ _ h1.ofNoY h2⟩)
    · rw [if_neg (by rw [hw]; simp)]
      exact ⟨fun _ => Below.refl _ _, ih _ _ _ _ _ (undefS hS hx.1) hx.2⟩
  intro pl
  induction pl with
  | nil =>
    intro listed φ F s a w hp hS h
    simp only [planB, beq_iff_eq] at hp
    exact ⟨hp, φ, F, s, hS, hK F s h⟩
  | two i k rest j l q ih1 ih2 =>
    intro listed φ F s a w hp hS h
    simp only [planB, Bool.and_eq_true, beq_iff_eq] at hp
    obtain ⟨⟨⟨⟨⟨hp1, hp2⟩, hp3⟩, hp4⟩, hp5⟩, hp6⟩ := hp
    obtain ⟨h1, h2⟩ := h
    refine ⟨fun h0 => (by rw [hp1] at h0; cases h0), fun n hn => ?_⟩
    rw [hp1] at hn
    have : n = i ∨ n = j := by simpa using hn
    rcases this with rfl | rfl
    · exact one rest listed n k φ F s a w hp2 hS h1 fun φ F s a w => ih1 _ φ F s a w hp5
    · have := one q listed n l φ F s a w hp3 hS h2 fun φ F s a w => ih2 _ φ F s a w hp6
      rwa [← hp4] at this
  | go i k rest ih0 =>
    intro listed φ F s a w hp hS h
    simp only [planB, Bool.and_eq_true] at hp
    obtain ⟨hp1, hp2⟩ := hp
    have ih := fun φ F s a w => ih0 (listed.setIfInBounds i true) φ F s a w hp2
    have alone : Region.ready .any ops listed = [i] → aloneB ds i k = true → wpG P .any ops (Lift N Im φ0 s0 w0 B Q) ds (rest.len + 1) listed a w := fun hr ha => by
      refine ⟨fun h0 => (by rw [hr] at h0; cases h0), fun j hj => ?_⟩
      rw [hr] at hj
      have : j = i := by simpa using hj
      subst this
      exact one rest listed j k φ F s a w ha hS h ih
    simp only [APlan] at h
    obtain ⟨o, ho, h⟩ := bindO_spec h
    have hguard : (Region.wanted o (yielded ops a.tmps) = true ∧ AOpK P T N.noY k o F s (APlan P T N ops K rest)) ∨ (Region.wanted o (yielded ops a.tmps) = false ∧ dstOk N.n o.dst ∧ APlan P T N ops K rest (updO F o.dst (.tup [])) s) := AGuard_ok hS h
    have hQ : ∀ (v : Value) (c : List PanicEntry) (a : Act) (w : World), Lift N Im φ0 s0 w0 B Q (.panic c) (a.put o.dst v) w → Lift N Im φ0 s0 w0 B Q (.panic c) a w := fun _ _ _ _ h => h.elim
    have first : ∀ v, Region.free .any ops listed i = true → (Region.ready .any ops listed).contains i = true → (Yields P ops o v a ∨ (LClosed .any ops listed ∧ (∀ d ∈ ds, listed.getD d true = false → reachB .any ops i ops.size d = true) ∧ YieldsIf P ops (Below w.heap.size w) o v a)) →
        wpG P .any ops (Lift N Im φ0 s0 w0 B Q) ds rest.len (listed.setIfInBounds i true) (a.put o.dst v) w → wpG P .any ops (Lift N Im φ0 s0 w0 B Q) ds (rest.len + 1) listed a w := fun v hf hr hy hh =>
      wpG_first ho (Region.noSelect_spec hns) (hQ v) ops.size _ _ _ _ (Region.free_spec ho hf) (by simpa using hr) hy hh
    have off : dstOk N.n o.dst ∧ APlan P T N ops K rest (updO F o.dst (.tup [])) s → Region.wanted o (yielded ops a.tmps) = false → wpG P .any ops (Lift N Im φ0 s0 w0 B Q) ds rest.len (listed.setIfInBounds i true) (a.put o.dst undef) w := fun h _ => ih _ _ _ _ _ (undefS hS h.1) h.2
    cases k with
    | p =>
      simp only [Bool.and_eq_true] at hp1
      rcases hguard with ⟨hw, hx⟩ | ⟨hw, hx⟩
      · obtain ⟨h2, hx⟩ := hx
        obtain ⟨x, h1, h3⟩ := bindO_spec hx
        obtain ⟨v, k1, k2⟩ := evP_ok hT hS.holds h1
        exact first v hp1.1 hp1.2 (.inl (.inl ⟨hw, k1⟩)) (ih _ _ _ _ _ (hS.put (Step.refl ..) hS.inv k2 h2) h3)
      · exact first undef hp1.1 hp1.2 (.inl (.inr ⟨hw, rfl⟩)) (off hx hw)
    | l =>
      simp only [Bool.and_eq_true] at hp1
      obtain ⟨⟨⟨hf, hr⟩, hc⟩, hl⟩ := hp1
      have hd : ∀ d ∈ ds, listed.getD d true = false → reachB .any ops i ops.size d = true := fun d hm hun => by have := List.all_eq_true.1 hl d hm; rw [hun] at this; simpa using this
      rcases hguard with ⟨hw, hx⟩ | ⟨hw, hx⟩
      · simp only [AOpK, ALoad] at hx
        split at hx
        · rename_i t p hop
          obtain ⟨h2, hx⟩ := hx
          obtain ⟨x, h1, h3⟩ := bindO_spec hx
          obtain ⟨v, k1, k2⟩ := loadAV_ok hT hS.inv h1 (look_ok hS.holds p)
          refine first v hf hr (.inr ⟨closedB_spec hc, hd, .inl ⟨hw, fun w' hb => ?_⟩⟩) (ih _ _ _ _ _ (hS.put (Step.refl ..) hS.inv k2 h2) h3)
          simp [execOp, hop, k1 w' hb]
        · rename_i t1 t2 p hop
          obtain ⟨h2, hx⟩ := hx
          obtain ⟨x, h1, h3⟩ := bindO_spec hx
          obtain ⟨v, k1, k2⟩ := bytesAV_ok hT hS.inv h1 (look_ok hS.holds p)
          refine first v hf hr (.inr ⟨closedB_spec hc, hd, .inl ⟨hw, fun w' hb => ?_⟩⟩) (ih _ _ _ _ _ (hS.put (Step.refl ..) hS.inv k2 h2) h3)
          simp [execOp, hop, k1 w' hb]
        · rename_i t m k ok hop
          obtain ⟨h2, hx⟩ := hx
          obtain ⟨x, h1, h3⟩ := bindO_spec hx
          obtain ⟨v, k1, k2⟩ := lookup_ok hT hS.inv h1 (look_ok hS.holds m) (look_ok hS.holds k)
          refine first v hf hr (.inr ⟨closedB_spec hc, hd, .inl ⟨hw, fun w' hb => ?_⟩⟩) (ih _ _ _ _ _ (hS.put (Step.refl ..) hS.inv k2 h2) h3)
          simp [execOp, hop, k1 w' hb]
        · exact hx.elim
      · exact first undef hf hr (.inl (.inr ⟨hw, rfl⟩)) (off hx hw)
    | c =>
      simp only [Bool.and_eq_true, beq_iff_eq] at hp1
      exact alone hp1.1 hp1.2
    | x =>
      simp only [Bool.and_eq_true, beq_iff_eq] at hp1
      exact alone hp1.1 hp1.2
end

/-! ### Code -/
def updL (F : Fr) : List Nat → List AV → Fr
  | p :: ps, x :: xs => updL (upd F p x) ps xs
  | _, _ => F
/-- What a function does, where it may call yield. -/
def Ysound (P : Program) (f : Nat) (Y : Nat → St → List AV → (St → AV → Prop) → Prop) (s : St) (args : List AV) (R : St → AV → Prop) : Prop :=
  ∀ Im φ B w vals, Inv Im φ s B w → relL Im φ s B w args vals → YOk P none Y Im φ s w B → Calls P f vals.toArray w fun e w' => ∃ φ' s' r v, e = .returned v ∧ Step B φ s w φ' s' w' ∧ Inv Im φ' s' B w' ∧ rel Im φ' s' B w' r v ∧ R s' r
/-- The rounds that an iterator asks for: round i is handed xs[i]; between the rounds I. -/
def roundsY (xs : List (List AV)) (I : Nat → St → Prop) (l : Nat) : Nat → St → List AV → (St → AV → Prop) → Prop := fun l' s a R => l' = l ∧ ∃ i, xs[i]? = some a ∧ I i s ∧ ∀ s', I (i + 1) s' → R s' (.bool true)
def IterOk (P : Program) (f : Nat) (caps : List AV) (xs : List (List AV)) (I : Nat → St → Prop) : Prop :=
  Enters P f ∧ ∀ l s, I 0 s → Ysound P f (roundsY xs I l) s (.yld l :: caps) fun s' _ => I xs.length s'
def AW (P : Program) (T : Tab) : En → Code → (Exit → Fr → St → Prop) → Fr → St → Prop
  | _, .skip, Q, F, s => Q .normal F s
  | N, .region _ ops false, Q, F, s => AOps P T N ops (Q .normal) ops.toList F s
  | N, .region _ ops true, Q, F, s => ADraw P T N ops (Q .normal) F s
  | N, .seq x y, Q, F, s => AW P T N x (fun e F s => match e with | .normal => AW P T N y Q F s | e => Q e F s) F s
  | N, .cond c x y, Q, F, s => condP (look F c) (AW P T N x Q F s) (AW P T N y Q F s)
  | N, .block id x, Q, F, s => AW P T N x (fun e F s => match e with | .exit i => if i = id then Q .normal F s else Q (.exit i) F s | e => Q e F s) F s
  | N, .loop x, Q, F, s => ∃ (I : Fr → St → Prop) (μ : Fr → St → Nat), Wk I F s ∧ ∀ F s, I F s → AW P T N x (fun e F' s' => match e with | .normal => Wk (fun F' s' => I F' s' ∧ μ F' s' < μ F s) F' s' | e => Q e F' s') F s
  | _, .exit id, Q, F, s => Q (.exit id) F s
  | _, .ret, Q, F, s => Q .ret F s
  | N, .rangeFunc g ps assign body, Q, F, s => N.top = true ∧ Wk (fun F s => ∃ f caps xs I, look F g = .fn f caps ∧ IterOk P f caps xs I ∧ (∀ x ∈ xs, x.length = ps.size) ∧ (∀ p ∈ ps.toList, p < N.n) ∧ I 0 s ∧
      (∀ i x s, xs[i]? = some x → I i s → AW P T N.body assign (fun e F' s' => match e with | .normal => AW P T N.body body (fun e F'' s'' => match e with | .normal => Wk (fun _ s => I (i + 1) s) F'' s'' | _ => False) F' s' | _ => False) (updL F ps.toList x) s) ∧
      ∀ s, I xs.length s → Q .normal F s) F s
  | _, _, _, _, _ => False

theorem least_of {p : Nat → Prop} (h : ∃ n, p n) : ∃ n, p n ∧ ∀ m, p m → n ≤ m := by
  obtain ⟨n, hn⟩ := h
  induction n using Nat.strongRecOn with
  | _ n ih =>
    by_cases h : ∃ m, m < n ∧ p m
    · obtain ⟨m, h1, h2⟩ := h
      exact ih m h1 h2
    · exact ⟨n, hn, fun m hm => Nat.le_of_not_lt fun hl => h ⟨m, hl, hm⟩⟩
theorem wpIn_loop' {Fe : Fence} {m : Nat} {P : Program} {Q : Exit → Act → World → Prop} {c : Code} (J : Nat → Act → World → Prop) {n : Nat} {a : Act} {w : World} (h₀ : J n a w)
    (round : ∀ n a w, J n a w → c.wpIn Fe m P (Exit.then (fun a' w' => ∃ k, k < n ∧ J k a' w') Q) a w) : (Code.loop c).wpIn Fe m P Q a w := by
  classical
  let least : (a : Act) → (w : World) → Nat := fun a w => if h : ∃ n, J n a w then Classical.choose (least_of h) else 0
  have hl : ∀ a w, (∃ n, J n a w) → J (least a w) a w := fun a w h => by
    simp only [least, dif_pos h]
    exact (Classical.choose_spec (least_of h)).1
  have hle : ∀ a w n, J n a w → least a w ≤ n := fun a w n h => by
    have h' : ∃ n, J n a w := ⟨n, h⟩
    simp only [least, dif_pos h']
    exact (Classical.choose_spec (least_of h')).2 n h
  refine wpIn_loop (fun a w => ∃ n, J n a w) least ⟨n, h₀⟩ fun a w h => ?_
  refine wpIn_mono (round _ a w (hl a w h)) fun e a' w' hh => ?_
  cases e with
  | normal =>
    obtain ⟨k, hk, hJ⟩ := hh
    exact ⟨⟨k, hJ⟩, Nat.lt_of_le_of_lt (hle a' w' k hJ) hk⟩
  | _ => exact hh

theorem wpOpIn_of {P : Program} {ops : Array Oper} {Q : Exit → Act → World → Prop} {i : Nat} {K : Act → World → Prop} {a : Act} {w : World} (ro : Option Nat) (m : Nat) (hd : noDefer ops = true) (hL : ¬ LetsOut Q) (h : wpOp P ops Q i K a w) : wpOpIn (Fw ro) m P ops Q i K a w := by
  unfold wpOp at h
  unfold wpOpIn
  split
  · rename_i ho; simp only [ho] at h; exact h
  · rename_i o ho
    simp only [ho] at h
    have hnd : ∀ c, o.op ≠ .defer c := by
      intro c hc
      unfold noDefer at hd
      have := (Array.all_eq_true.1 hd) i (Array.getElem?_eq_some_iff.1 ho).1
      rw [(Array.getElem?_eq_some_iff.1 ho).2, hc] at this
      cases this
    split
    · rename_i hw
      rw [if_pos hw] at h
      exact Oper.wpIn_of ro m hnd (h.resolve_right fun h => hL h.2)
    · rename_i hw
      rw [if_neg hw] at h
      exact ⟨fun _ _ => trivial, h⟩
theorem wpAnyIn_of {P : Program} {ops : Array Oper} {Q : Exit → Act → World → Prop} {md : Region.Mode} (ro : Option Nat) (m : Nat) (hd : noDefer ops = true) (hL : ¬ LetsOut Q) : ∀ (fuel : Nat) (listed : Array Bool) (a : Act) (w : World), wpAny P md ops Q fuel listed a w → wpAnyIn (Fw ro) m P md ops Q fuel listed a w
  | 0, _, _, _, h => h
  | fuel + 1, _, _, _, h => ⟨h.1, fun i hi => wpOpIn_mono (fun a w h => wpAnyIn_of ro m hd hL fuel _ a w h) (wpOpIn_of ro m hd hL (h.2 i hi))⟩

section
variable {Im : Nat → Prop} {φ : Emb} {s : St} {B : Nat} {w : World}
/-- A block laid that is neither cells nor a map. -/
theorem Inv.lay (hI : Inv Im φ s B w) (o : Obj) : Step B φ s w φ s (w.alloc o) ∧ Inv Im φ s B (w.alloc o) := by
  have hold : ∀ g, g < w.heap.size → (w.alloc o).heap[g]? = w.heap[g]? := fun g hg => Below.heap_alloc w o g hg
  have hst : Step B φ s w φ s (w.alloc o) :=
    ⟨Nat.le_refl _, Nat.le_refl _, fun _ _ => rfl, fun n e sz xs' _ h => ⟨⟨xs', h, fun _ => rfl⟩, rfl, fun cap hc => RowAt.later hc rfl fun g hg => hold g (hI.bnd g (.inr ⟨n, at_live h, hg⟩)).2⟩, fun g hg h => ⟨hold g hg, h⟩, (Below.refl B w).alloc hI.hB o, Nat.le_refl _⟩
  have hsz : (w.alloc o).heap.size = w.heap.size + 1 := by simp
  refine ⟨hst, ⟨by rw [hsz]; have := hI.hB; omega, fun g hg => ?_, hI.bxinj, hI.rwinj, hI.bxrw, fun b ty cs hb => ?_, fun n e sz xs hl => RowOk.step hst (RowOk.later (hI.rows n e sz xs hl) fun g hg => hold g (hI.bnd g (.inr ⟨n, at_live hl, hg⟩)).2)⟩⟩
  · have := hI.bnd g hg
    rw [hsz]
    omega
  · obtain ⟨vs, k1, k2, k3⟩ := hI.cells b ty cs hb
    have hlt : b < s.box.length := (List.getElem?_eq_some_iff.1 hb).1
    exact ⟨vs, by rw [hold _ (hI.bnd _ (.inl ⟨b, hlt, rfl⟩)).2]; exact k1, relL_step hst _ _ k2, k3⟩
/-- A step, then a turn of a block that was not there before. -/
theorem Step.offEnd {φ' : Emb} {s' : St} {l : Nat} {w1 w2 : World} (hs : Step B φ s w φ' s' w1) (h : Off l w1 w2) (hl : w.heap.size ≤ l) (hB : B ≤ w.heap.size) : Step B φ s w φ' s' w2 where
  nrow := hs.nrow
  nbox := hs.nbox
  bx := hs.bx
  rw n e sz xs' hn ha := by
    obtain ⟨k1, k2, k3⟩ := hs.rw n e sz xs' hn ha
    refine ⟨k1, k2, fun cap hc => ?_⟩
    obtain ⟨g, cur, j1, j2, j3⟩ := k3 cap hc
    exact ⟨g, cur, j1, by rw [h.oth g (fun e => h.ncell _ _ _ (e ▸ j2))]; exact j2, j3⟩
  im g hg hm := by
    obtain ⟨k1, k2⟩ := hs.im g hg hm
    exact ⟨by rw [h.oth g (by omega)]; exact k1, k2⟩
  below := ⟨h.os.trans hs.below.os, h.tape.trans hs.below.tape, h.output.trans hs.below.output, by rw [h.size]; exact hs.below.size, fun g hg => by rw [h.oth g (by omega)]; exact hs.below.block g hg⟩
  drawn := by rw [h.drawn]; exact hs.drawn
theorem off_put {l : Nat} {o o' : Obj} (h : w.heap[l]? = some o) (h1 : ∀ c t f, o ≠ .cells c t f) (h2 : ∀ ms c, o ≠ .map ms c) : Off l w (w.putObj l o') :=
  ⟨World.putObj_size, fun g hg => World.putObj_heap_other hg, fun c t f e => h1 c t f (by rw [h] at e; injection e), fun ms c e => h2 ms c (by rw [h] at e; injection e), rfl, rfl, rfl, rfl⟩
theorem fold_holds {a : Array Value} : ∀ (ps : List Nat) (xs : List AV) (vs : List Value) (F : Fr) (a : Array Value), (∀ i, rel Im φ s B w (F i) (a.getD i undef)) → relL Im φ s B w xs vs → xs.length = ps.length → (∀ p ∈ ps, p < a.size) →
    (∀ i, rel Im φ s B w (updL F ps xs i) (((ps.zip vs).foldl (fun t (p : Nat × Value) => t.setIfInBounds p.1 p.2) a).getD i undef)) ∧ ((ps.zip vs).foldl (fun t (p : Nat × Value) => t.setIfInBounds p.1 p.2) a).size = a.size
  | [], xs, vs, F, a, h, hr, hl, hp => by
    cases xs with
    | nil => exact ⟨h, rfl⟩
    | cons x xs => simp at hl
  | p :: ps, xs, vs, F, a, h, hr, hl, hp => by
    cases xs with
    | nil => simp at hl
    | cons x xs =>
      simp only [relL] at hr
      obtain ⟨v, r, rfl, hv, hr⟩ := hr
      simp only [updL, List.zip_cons_cons, List.foldl_cons]
      have hlt : p < a.size := hp p (by simp)
      have := fold_holds (a := a) ps xs r (upd F p x) (a.setIfInBounds p v) (fun i => by
        unfold upd
        by_cases e : i = p
        · subst e; rw [if_pos rfl]; simpa [Array.getD_eq_getD_getElem?, hlt] using hv
        · rw [if_neg e]; have := h i; simpa [Array.getD_eq_getD_getElem?, Array.getElem?_setIfInBounds_ne (Ne.symm e)] using this) hr (by simpa using hl) (fun q hq => by simpa using hp q (by simp [hq]))
      exact ⟨this.1, this.2.trans (by simp)⟩
end
section
variable {P : Program} {T : Tab} (hT : TabOk P T) (hm : P.follows .mixedOrders = true) {Im : Nat → Prop} {B : Nat}
include hT hm
theorem AW_ok (c : Code) : ∀ (m : Nat) (N : En) (ro : Option Nat) (Q : Exit → Fr → St → Prop) (φ0 : Emb) (s0 : St) (w0 : World) (φ : Emb) (F : Fr) (s : St) (a : Act) (w : World), (N.top = true → ro = none) → YOk P ro N.Y Im φ0 s0 w0 B →
    Sim N Im φ0 s0 w0 B φ F s a w → AW P T N c Q F s → c.wpIn (Fw ro) m P (Lift N Im φ0 s0 w0 B Q) a w := by
  induction c with
  | skip => intro m N ro Q φ0 s0 w0 φ F s a w ht hY hS h; exact wpIn_skip ⟨φ, F, s, hS, h⟩
  | region id ops d =>
   cases d with
   | false =>
    intro m N ro Q φ0 s0 w0 φ F s a w ht hY hS h
    exact wpIn_region (AOps_all hT hY m (fun φ F s a w h1 h2 => ⟨φ, F, s, h1, h2⟩) _ _ _ _ _ hS h)
   | true =>
    intro m N ro Q φ0 s0 w0 φ F s a w ht hY hS h
    obtain ⟨ds, pl, hp, h⟩ := h
    simp only [planOk, Bool.and_eq_true, decide_eq_true_eq] at hp
    obtain ⟨⟨⟨hp0, hp1⟩, hp2⟩, hp3⟩ := hp
    refine wpIn_region_any hm (wpAnyIn_of ro m hp0 Lift.noOut _ _ _ _ ?_)
    have hS' : Sim N Im φ0 s0 w0 B φ F s a { w with drawn := w.drawn + 1 } := by
      have hst : Step B φ s w φ s { w with drawn := w.drawn + 1 } :=
        ⟨Nat.le_refl _, Nat.le_refl _, fun _ _ => rfl, fun _ _ _ xs' _ h => ⟨⟨xs', h, fun _ => rfl⟩, rfl, fun _ h => h⟩, fun _ _ h => ⟨rfl, h⟩, ⟨rfl, rfl, rfl, Nat.le_refl _, fun _ _ => rfl⟩, Nat.le_succ _⟩
      exact ⟨hS.holds.step hst, hS.size, hS.defers.step hst, ⟨hS.inv.hB, hS.inv.bnd, hS.inv.bxinj, hS.inv.rwinj, hS.inv.bxrw, fun b ty cs hb => by
        obtain ⟨vs, k1, k2, k3⟩ := hS.inv.cells b ty cs hb
        exact ⟨vs, k1, relL_step hst _ _ k2, k3⟩, fun n e sz xs hl => RowOk.step hst (RowOk.later (hS.inv.rows n e sz xs hl) fun _ _ => rfl)⟩, hS.step.trans hst⟩
    have hG := APlan_ok hT hp1 (K := Q .normal) (Q := Q) (fun F s h => h) pl _ φ F s a _ hp2 hS' h
    have more : ∀ (fuel n : Nat) (listed : Array Bool) (a : Act) (w : World), wpG P .any ops (Lift N Im φ0 s0 w0 B Q) ds fuel listed a w → wpG P .any ops (Lift N Im φ0 s0 w0 B Q) ds (fuel + n) listed a w := by
      intro fuel n
      induction fuel with
      | zero =>
        intro listed a w h
        cases n with
        | zero => exact h
        | succ n =>
          rw [Nat.zero_add]
          exact ⟨fun _ => h.2, fun i hi => by rw [h.1] at hi; cases hi⟩
      | succ fuel ih =>
        intro listed a w h
        rw [Nat.add_right_comm]
        exact ⟨h.1, fun i hi => wpOp_mono (fun a' w' h' => ⟨h'.1, ih _ _ _ h'.2⟩) (h.2 i hi)⟩
    have hG' := more _ (ops.size - pl.len) _ _ _ hG
    rw [Nat.add_sub_cancel' hp3] at hG'
    exact wpAny_of_G _ _ _ _ hG'
  | seq x y ihx ihy =>
    intro m N ro Q φ0 s0 w0 φ F s a w ht hY hS h
    refine wpIn_seq (wpIn_mono (ihx m N ro _ φ0 s0 w0 φ F s a w ht hY hS h) fun e a w hh => ?_)
    cases e with
    | normal => obtain ⟨φ', F', s', h1, h2⟩ := hh; exact ihy m N ro Q φ0 s0 w0 φ' F' s' a w ht hY h1 h2
    | _ => exact hh
  | cond c x y ihx ihy =>
    intro m N ro Q φ0 s0 w0 φ F s a w ht hY hS h
    obtain ⟨b, hc, h1, h2⟩ := condP_spec h (look_ok hS.holds c)
    exact wpIn_cond_split hc (fun e => ihx m N ro Q φ0 s0 w0 φ F s a w ht hY hS (h1 e)) (fun e => ihy m N ro Q φ0 s0 w0 φ F s a w ht hY hS (h2 e))
  | block id x ihx =>
    intro m N ro Q φ0 s0 w0 φ F s a w ht hY hS h
    refine wpIn_block (wpIn_mono (ihx m N ro _ φ0 s0 w0 φ F s a w ht hY hS h) fun e a w hh => ?_)
    cases e with
    | exit i =>
      obtain ⟨φ', F', s', h1, h2⟩ := hh
      simp only [Exit.inBlock]
      simp only at h2
      split at h2
      · rename_i he
        rw [if_pos he]
        exact ⟨φ', F', s', h1, h2⟩
      · rename_i he
        rw [if_neg he]
        exact ⟨φ', F', s', h1, h2⟩
    | _ => exact hh
  | loop x ihx =>
    intro m N ro Q φ0 s0 w0 φ F s a w ht hY hS h
    obtain ⟨I, μ, ⟨F1, s1, hW, h0⟩, hr⟩ := h
    obtain ⟨φ1, hS1⟩ := hW _ _ _ _ _ _ _ _ _ hS
    refine wpIn_loop' (fun n a w => ∃ φ F s, Sim N Im φ0 s0 w0 B φ F s a w ∧ I F s ∧ μ F s = n) ⟨φ1, F1, s1, hS1, h0, rfl⟩ ?_
    rintro n a w ⟨φ, F, s, hS, hI, rfl⟩
    refine wpIn_mono (ihx m N ro _ φ0 s0 w0 φ F s a w ht hY hS (hr F s hI)) fun e a w hh => ?_
    cases e with
    | normal =>
      obtain ⟨φ', F', s', h1, F2, s2, hW2, h2, h3⟩ := hh
      obtain ⟨φ2, hS2⟩ := hW2 _ _ _ _ _ _ _ _ _ h1
      exact ⟨_, h3, φ2, F2, s2, hS2, h2, rfl⟩
    | _ => exact hh
  | exit id => intro m N ro Q φ0 s0 w0 φ F s a w ht hY hS h; exact wpIn_exit ⟨φ, F, s, hS, h⟩
  | ret => intro m N ro Q φ0 s0 w0 φ F s a w ht hY hS h; exact wpIn_ret ⟨φ, F, s, hS, h⟩
  | rangeFunc g ps assign body ihA ihB =>
    intro m N ro Q φ0 s0 w0 φ F s a w ht hY hS h
    obtain ⟨htop, F1, s1, hW, f, caps, xs, I, hg, hit, hlen, hps, h0, hr, hd⟩ := h
    obtain rfl := ht htop
    obtain ⟨φ1, hS⟩ := hW _ _ _ _ _ _ _ _ _ hS
    refine wpIn_rangeFunc fun fn hfn => ?_
    have hfg := look_ok hS.holds g
    rw [hg] at hfg
    simp only [rel] at hfg
    obtain ⟨cs, hcs, hrc⟩ := hfg
    obtain ⟨rec, hrec⟩ : ∃ rec : LoopState → Option Code → Loop, rec = fun st pe => { state := st, pending := pe, fn, tmps := a.tmps, params := ps, assign, body, defers := w.heap.size } := ⟨_, rfl⟩
    obtain ⟨l, hl⟩ : ∃ l, l = w.heap.size + 1 := ⟨_, rfl⟩
    obtain ⟨W1, hW1⟩ : ∃ W1, (w.alloc (.deferred (some []))).alloc (.loop (rec .ready none)) = W1 := ⟨_, rfl⟩
    obtain ⟨j1, j2⟩ := hS.inv.lay (.deferred (some []))
    obtain ⟨j3, j4⟩ := j2.lay (.loop (rec .ready none))
    rw [hW1] at j3 j4
    have hs1 := j1.trans j3
    have hL1 : W1.heap[l]? = some (.loop (rec .ready none)) := by
      rw [← hW1, hl]; have := World.alloc_heap_new (w.alloc (.deferred (some []))) (.loop (rec .ready none)); rwa [World.size_alloc] at this
    have hK1 : W1.heap[w.heap.size]? = some (.deferred (some [])) := by
      rw [← hW1]; exact (Below.heap_alloc _ _ _ (by simp)).trans (World.alloc_heap_new w _)
    have hnl : ¬ Mut φ1 s1 l := fun h => by have := (hS.inv.bnd _ h).2; omega
    have hnk : ¬ Mut φ1 s1 w.heap.size := fun h => by have := (hS.inv.bnd _ h).2; omega
    have hBl : B ≤ l := by have := hS.inv.hB; omega
    have hcells : ∀ st pe c t f, Obj.loop (rec st pe) ≠ .cells c t f := fun _ _ _ _ _ h => by cases h
    have hmaps : ∀ st pe ms c, Obj.loop (rec st pe) ≠ .map ms c := fun _ _ _ _ h => by cases h
    refine ⟨l, [{ target := .collected w.heap.size, args := #[] }], W1, { target := .fn (.func f) cs.toArray, args := #[.func (.yield l) #[] #[]] }, W1, f, (.func (.yield l) #[] #[] :: cs).toArray, W1, ?_, ?_, fun _ _ => trivial, ?_, (fun h => by cases h), ?_⟩
    · rw [← hW1, hrec, hl]; exact run_enterLoop_outer _ _ _ _ _
    · simp only [resolve, hcs]
      simp [Deferred.ofValue, Sem.run, bind, Sem.bind, pure]
      rfl
    · have e : (Value.func (.yield l) #[] #[] :: cs).toArray = #[.func (.yield l) #[] #[]] ++ cs.toArray := by apply Array.ext'; simp
      rw [e]
      simp [invoke]
      exact hit.1 _ _
    · refine callsIn_Fw none ((hit.2 l s1 h0 Im φ1 B W1 (.func (.yield l) #[] #[] :: cs) j4 (by simp only [relL]; exact ⟨_, _, rfl, by simp [rel], relL_step hs1 _ _ hrc⟩) ?_).mono ?_)
      · -- one round
        rintro l' s' args R ⟨rfl, i, hx, hIi, hRR⟩
        refine ⟨rfl, fun φ' W vals hst hI' hrl m' => ?_⟩
        obtain ⟨k1, k2⟩ := hst.im l' (lt_of_get hL1) hnl
        have hlW : W.heap[l']? = some (.loop (rec .ready none)) := k1.trans hL1
        have hal : args.length = ps.size := hlen _ (List.mem_of_getElem? hx)
        have hvl : vals.length = ps.size := (relL_len _ _ hrl).trans hal
        obtain ⟨q1, q2⟩ := fold_holds (a := a.tmps) ps.toList args vals F1 a.tmps (fun i => rel_step (hs1.trans hst) _ _ (hS.holds i)) hrl (by simpa using hal) (fun p hp => by rw [hS.size]; exact hps p hp)
        have hy := run_yield (P := P) (args := vals.toArray) hlW (by rw [hrec]; simpa using hvl)
        rw [hrec] at hy
        have hfold : ∀ (z : Array Value), (ps.zip vals.toArray).foldl (fun t (p : Nat × Value) => t.setIfInBounds p.1 p.2) z = (ps.toList.zip vals).foldl (fun t (p : Nat × Value) => t.setIfInBounds p.1 p.2) z := fun z => by
          rw [← Array.foldl_toList]
          simp
        refine ⟨fn, _, assign, body, hy, roundIn_of_wpIn (F := Fence.wide) trivial ?_⟩
        have hS' : Sim N.body Im φ' s' W B φ' (updL F1 ps.toList args) s' { tmps := (ps.toList.zip vals).foldl (fun t (p : Nat × Value) => t.setIfInBounds p.1 p.2) a.tmps, defers := [] } W :=
          ⟨q1, q2.trans hS.size, rfl, hI', Step.refl ..⟩
        have hA := ihA m' N.body (some l') _ φ' s' W φ' _ s' _ W (fun h => by cases h) YOk.no hS' (hr i args s' hx hIi)
        rw [← hfold] at hA
        refine wpIn_mono hA fun e a1 w1 hh => ?_
        cases e with
        | normal =>
          obtain ⟨φ2, F2, s2, hS2, hB2⟩ := hh
          obtain ⟨k3, k4⟩ := hS2.step.im l' (lt_of_get hlW) k2
          have hl1 : w1.heap[l']? = some (.loop (rec .ready none)) := k3.trans hlW
          refine ⟨_, run_beginRound hl1 (by rw [hrec]), ?_⟩
          have hrb : { rec .ready none with state := .busy } = rec .busy none := by rw [hrec]
          rw [hrb]
          have hoff := off_put (o' := .loop (rec .busy none)) hl1 (hcells _ _) (hmaps _ _)
          have hdef : a1.defers = [] := by have := hS2.defers; simpa [DefOk, En.body] using this
          have hS3 : Sim N.body Im φ2 s2 (w1.putObj l' (.loop (rec .busy none))) B φ2 F2 s2 a1 (w1.putObj l' (.loop (rec .busy none))) :=
            ⟨fun i => rel_off hoff _ _ (hS2.holds i), hS2.size, by simp [DefOk, En.body, hdef], hS2.inv.off hoff, Step.refl ..⟩
          have hBW := ihB m' N.body (some l') _ φ2 s2 _ φ2 F2 s2 a1 _ (fun h => by cases h) YOk.no hS3 hB2
          refine wpIn_mono hBW fun e a2 w3 hh => ?_
          cases e with
          | normal =>
            obtain ⟨φ3, F3, s3, hS4, F4, s4, hW4, hI4⟩ := hh
            obtain ⟨φ4, hS5⟩ := hW4 _ _ _ _ _ _ _ _ _ hS4
            obtain ⟨k5, k6⟩ := hS5.step.im l' (by rw [World.putObj_size]; exact lt_of_get hl1) k4
            have hl3 : w3.heap[l']? = some (.loop (rec .busy none)) := k5.trans (World.putObj_heap_same (lt_of_get hl1))
            have hrr : { rec .busy none with state := .ready, pending := none } = rec .ready none := by rw [hrec]
            have hend := run_endRound (P := P) none hl3
            simp only [Option.isNone_none, if_true] at hend
            rw [hrr] at hend
            have hoff2 := off_put (o' := .loop (rec .ready none)) hl3 (hcells _ _) (hmaps _ _)
            refine ⟨_, _, hend, φ4, s4, .bool true, .bool true, rfl, ?_, hS5.inv.off hoff2, by simp [rel], hRR _ hI4⟩
            exact hS2.step.trans (Step.between hoff hBl hS5.step hoff2 ((World.putObj_heap_same (lt_of_get hl3)).trans hl1.symm))
          | exit _ => obtain ⟨_, _, _, _, h⟩ := hh; exact h.elim
          | goto _ => obtain ⟨_, _, _, _, h⟩ := hh; exact h.elim
          | ret => obtain ⟨_, _, _, _, h⟩ := hh; exact h.elim
          | panic _ => exact hh.elim
          | outgrown => exact hh.elim
        | exit _ => obtain ⟨_, _, _, _, h⟩ := hh; exact h.elim
        | goto _ => obtain ⟨_, _, _, _, h⟩ := hh; exact h.elim
        | ret => obtain ⟨_, _, _, _, h⟩ := hh; exact h.elim
        | panic _ => exact hh.elim
        | outgrown => exact hh.elim
      · rintro e w' ⟨φ2, s2, r, v, rfl, hst, hI2, hrv, hIn⟩
        obtain ⟨k1, k2⟩ := hst.im l (lt_of_get hL1) hnl
        obtain ⟨k3, k4⟩ := hst.im w.heap.size (lt_of_get hK1) hnk
        have hlw : w'.heap[l]? = some (.loop (rec .ready none)) := k1.trans hL1
        have hend := run_endLoop (P := P) hlw (by rw [hrec]; simp)
        generalize (Obj.loop { rec .ready none with state := .exhausted }) = o at hend
        have hoff := off_put (o' := o) hlw (hcells _ _) (hmaps _ _)
        have hpe : (rec .ready none).pending = none := by rw [hrec]
        rw [hpe] at hend
        have hstep : Step B φ1 s1 w φ2 s2 (w'.putObj l o) := (hs1.trans hst).offEnd hoff (by omega) hS.inv.hB
        refine ⟨none, _, hend, φ2, F1, s2, ⟨fun i => rel_step hstep _ _ (hS.holds i), hS.size, ?_, hI2.off hoff, hS.step.trans hstep⟩, hd s2 hIn⟩
        have hdef := hS.defers
        unfold DefOk at hdef ⊢
        rw [if_pos htop] at hdef ⊢
        have hlt : ∀ {ds : List Deferred}, Marks φ1 s1 w0 w ds → ∀ d' ∈ ds, ∀ D', d'.target = .collected D' → D' < w.heap.size := by
          intro ds
          induction ds with
          | nil => intro _ d' hd'; cases hd'
          | cons d ds ih =>
            rintro ⟨⟨D, g1, g2, _⟩, g3⟩ d' hd' D' hD'
            rcases List.mem_cons.1 hd' with rfl | hd'
            · rw [g1] at hD'; injection hD' with hD'; rw [← hD']; exact lt_of_get g2
            · exact ih g3 d' hd' D' hD'
        exact ⟨⟨w.heap.size, rfl, (World.putObj_heap_other (by omega)).trans (k3.trans hK1), hS.step.below.size, k4, hlt hdef⟩, Marks.step hstep hdef⟩
  | _ => intro m N ro Q φ0 s0 w0 φ F s a w ht hY hS h; exact h.elim
end
end Go.Proofs.YtmcfgljdpjalfaaV
