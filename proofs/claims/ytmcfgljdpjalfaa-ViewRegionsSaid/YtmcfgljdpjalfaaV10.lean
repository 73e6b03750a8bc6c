/- The abstract layer, tenth text: the table of a program; the rules by which a body is walked; typed slices. -/
import Derived.Test.YtmcfgljdpjalfaaV9
set_option linter.unusedVariables false
set_option linter.unusedSimpArgs false
set_option linter.constructorNameAsVariable false
set_option linter.unusedSectionVars false
namespace Go.Proofs.YtmcfgljdpjalfaaV
open Go.RowKit

/-- The table of a program's types. -/
def tabOf (P : Program) : Tab := fun t =>
  match P.underlying t, P.info? t with
  | some d, some i => match i.zero with
    | some z => if z.cells.size = i.size ∧ (z.cells.toList.all (·.oneCell')) = true ∧ isAggV z = TD.agg ⟨d, 0, 0, [], false⟩ then some ⟨d, i.size, i.bytes, z.cells.toList, !P.stoodInHeld t && !P.eqGuardType P.depth t⟩ else none
    | none => none
  | _, _ => none
theorem tabOf_ok (P : Program) : TabOk P (tabOf P) := by
  intro t d h
  unfold tabOf at h
  split at h
  · rename_i d' i h1 h2
    split at h
    · rename_i z hz
      split at h
      · rename_i hc
        injection h with h
        subst h
        refine ⟨h1, i, z, h2, rfl, rfl, hz, rfl, by simpa using hc.1, fun u hu => ?_, fun h => by simpa using h, hc.2.2⟩
        exact List.all_eq_true.1 hc.2.1 u hu
      · cases h
    · cases h
  · cases h

section
variable {P : Program} {T : Tab} {N : En}
theorem AW_seq (x y : Code) (Q : Exit → Fr → St → Prop) (F : Fr) (s : St) : AW P T N (.seq x y) Q F s = AW P T N x (fun e F s => match e with | .normal => AW P T N y Q F s | e => Q e F s) F s := rfl
theorem AW_region (i : Nat) (ops : Array Oper) (Q : Exit → Fr → St → Prop) (F : Fr) (s : St) : AW P T N (.region i ops false) Q F s = AOps P T N ops (Q .normal) ops.toList F s := rfl
theorem AW_draw (i : Nat) (ops : Array Oper) (Q : Exit → Fr → St → Prop) (F : Fr) (s : St) : AW P T N (.region i ops true) Q F s = ADraw P T N ops (Q .normal) F s := rfl
theorem AW_cond (c : Operand) (x y : Code) (Q : Exit → Fr → St → Prop) (F : Fr) (s : St) : AW P T N (.cond c x y) Q F s = condP (look F c) (AW P T N x Q F s) (AW P T N y Q F s) := rfl
theorem AW_block (id : Nat) (x : Code) (Q : Exit → Fr → St → Prop) (F : Fr) (s : St) : AW P T N (.block id x) Q F s = AW P T N x (fun e F s => match e with | .exit i => if i = id then Q .normal F s else Q (.exit i) F s | e => Q e F s) F s := rfl
theorem AW_ret (Q : Exit → Fr → St → Prop) (F : Fr) (s : St) : AW P T N .ret Q F s = Q .ret F s := rfl
theorem AW_skip (Q : Exit → Fr → St → Prop) (F : Fr) (s : St) : AW P T N .skip Q F s = Q .normal F s := rfl
theorem AW_exit (i : Nat) (Q : Exit → Fr → St → Prop) (F : Fr) (s : St) : AW P T N (.exit i) Q F s = Q (.exit i) F s := rfl
theorem AOps_nil (ops : Array Oper) (K : Fr → St → Prop) (F : Fr) (s : St) : AOps P T N ops K [] F s = K F s := rfl
theorem AOps_cons (ops : Array Oper) (K : Fr → St → Prop) (o : Oper) (rest : List Oper) (F : Fr) (s : St) : AOps P T N ops K (o :: rest) F s = AGuard N ops o F (AOp P T N o F s (AOps P T N ops K rest)) (AOps P T N ops K rest (updO F o.dst (.tup [])) s) := rfl
theorem APlan_nil (ops : Array Oper) (K : Fr → St → Prop) (F : Fr) (s : St) : APlan P T N ops K .nil F s = K F s := rfl
/-- A loop: what holds at its head, and what each round lowers. -/
theorem AW_loop (x : Code) (Q : Exit → Fr → St → Prop) (F : Fr) (s : St) (I : Fr → St → Prop) (μ : Fr → St → Nat) (h0 : Wk I F s)
    (hr : ∀ F s, I F s → AW P T N x (fun e F' s' => match e with | .normal => Wk (fun F' s' => I F' s' ∧ μ F' s' < μ F s) F' s' | e => Q e F' s') F s) : AW P T N (.loop x) Q F s := ⟨I, μ, h0, hr⟩
theorem AW_mono (c : Code) : ∀ {N : En} {Q Q' : Exit → Fr → St → Prop} (_ : ∀ e F s, Q e F s → Q' e F s) (F : Fr) (s : St), AW P T N c Q F s → AW P T N c Q' F s := by
  have hb : ∀ {α : Type} (o : Option α) (k k' : α → Prop), (∀ x, k x → k' x) → bindO o k → bindO o k' := fun o k k' h hh => by
    obtain ⟨x, rfl, hx⟩ := bindO_spec hh
    exact h x hx
  have hc : ∀ (x : AV) (A B A' B' : Prop), (A → A') → (B → B') → condP x A B → condP x A' B' := fun x A B A' B' h1 h2 hh => condP_mono h1 h2 hh
  have hgp : ∀ (x : AV) (b : Bool) (A B A' B' : Prop), (A → A') → (B → B') → guardP x b A B → guardP x b A' B' := fun x b A B A' B' h1 h2 hh => by
    cases x with
    | bool v => exact ⟨fun e => h1 (hh.1 e), fun e => h2 (hh.2 e)⟩
    | ub => exact ⟨h1 hh.1, h2 hh.2⟩
    | tup xs => exact h2 hh
    | _ => exact hh.elim
  have hg : ∀ (N : En) (ops : Array Oper) (o : Oper) (F : Fr) (A B A' B' : Prop), (A → A') → (B → B') → AGuard N ops o F A B → AGuard N ops o F A' B' := by
    intro N ops o F A B A' B' h1 h2 hh
    unfold AGuard at hh ⊢
    split
    · rename_i hgd; simp only [hgd] at hh; exact h1 hh
    · rename_i j b hgd; simp only [hgd] at hh; exact hb _ _ _ (fun d hd => ⟨hd.1, hgp _ _ _ _ _ _ h1 (fun h => ⟨h.1, h2 h.2⟩) hd.2⟩) hh
  have hop : ∀ (N : En) (o : Oper) (F : Fr) (s : St) (K K' : Fr → St → Prop), (∀ F s, K F s → K' F s) → AOp P T N o F s K → AOp P T N o F s K' := by
    intro N o F s K K' h hh
    unfold AOp at hh ⊢
    split at hh
    · exact ⟨hh.1, hb _ _ _ (fun x hx => h _ _ hx) hh.2⟩
    · exact ⟨hh.1, hb _ _ _ (fun x hx => h _ _ hx) hh.2⟩
    · exact ⟨hh.1, hb _ _ _ (fun x hx => h _ _ hx) hh.2⟩
    · exact ⟨hh.1, hb _ _ _ (fun x hx => h _ _ hx) hh.2⟩
    · split at hh
      · refine ⟨hh.1, ?_⟩
        rcases hh.2 with h2 | ⟨l, R, h1, h2, h3⟩
        · exact .inl (h2.mono fun F s hh => hb _ _ _ (fun x hx => by obtain ⟨R, h1, h2⟩ := hx; exact ⟨R, h1, fun s' r hr => h _ _ (h2 s' r hr)⟩) hh)
        · exact .inr ⟨l, R, h1, h2, fun s' r hr => h _ _ (h3 s' r hr)⟩
      · exact ⟨hh.1, hb _ _ _ (fun x hx => h _ _ hx) hh.2⟩
    · exact ⟨hh.1, hb _ _ _ (fun x hx => h _ _ hx) hh.2⟩
  have hops : ∀ (N : En) (ops : Array Oper) (K K' : Fr → St → Prop), (∀ F s, K F s → K' F s) → ∀ (l : List Oper) (F : Fr) (s : St), AOps P T N ops K l F s → AOps P T N ops K' l F s := by
    intro N ops K K' h l
    induction l with
    | nil => exact fun F s hh => h F s hh
    | cons o r ih => exact fun F s hh => hg N _ _ _ _ _ _ _ (hop N o F s _ _ ih) (ih _ _) hh
  have hopk : ∀ (N : En) (k : PK) (o : Oper) (F : Fr) (s : St) (K K' : Fr → St → Prop), (∀ F s, K F s → K' F s) → AOpK P T N k o F s K → AOpK P T N k o F s K' := by
    intro N k o F s K K' h hh
    cases k with
    | p => exact ⟨hh.1, hb _ _ _ (fun x hx => h _ _ hx) hh.2⟩
    | l =>
      simp only [AOpK, ALoad] at hh ⊢
      split at hh
      · exact ⟨hh.1, hb _ _ _ (fun x hx => h _ _ hx) hh.2⟩
      · exact ⟨hh.1, hb _ _ _ (fun x hx => h _ _ hx) hh.2⟩
      · exact ⟨hh.1, hb _ _ _ (fun x hx => h _ _ hx) hh.2⟩
      · exact hh
    | c =>
      simp only [AOpK, AClean] at hh ⊢
      split at hh
      · split at hh
        · exact ⟨hh.1, hh.2.mono fun F s hh => hb _ _ _ (fun x hx => by obtain ⟨R, h1, h2⟩ := hx; exact ⟨R, h1, fun s' r hr => h _ _ (h2 s' r hr)⟩) hh⟩
        · exact hh
      · exact ⟨hh.1, hb _ _ _ (fun x hx => h _ _ hx) hh.2⟩
      · exact ⟨hh.1, hh.2.1, hb _ _ _ (fun x hx => h _ _ hx) hh.2.2⟩
    | x => exact hop N o F s K K' h hh
  have hplan : ∀ (N : En) (ops : Array Oper) (K K' : Fr → St → Prop), (∀ F s, K F s → K' F s) → ∀ (l : Pl) (F : Fr) (s : St), APlan P T N ops K l F s → APlan P T N ops K' l F s := by
    intro N ops K K' h l
    induction l with
    | nil => exact fun F s hh => h F s hh
    | go i k r ih => exact fun F s hh => hb _ _ _ (fun o ho => hg N _ _ _ _ _ _ _ (hopk N.noY k o F s _ _ ih) (ih _ _) ho) hh
    | two i k r j l q ih1 ih2 => exact fun F s hh => ⟨hb _ _ _ (fun o ho => hg N _ _ _ _ _ _ _ (hopk N.noY k o F s _ _ ih1) (ih1 _ _) ho) hh.1, hb _ _ _ (fun o ho => hg N _ _ _ _ _ _ _ (hopk N.noY l o F s _ _ ih2) (ih2 _ _) ho) hh.2⟩
  induction c with
  | skip => exact fun h F s hh => h _ F s hh
  | region id ops d =>
    intro N Q Q' h F s hh
    cases d with
    | false => exact hops _ _ _ _ (fun F s => h _ F s) _ F s hh
    | true => obtain ⟨ds, pl, h1, h2⟩ := hh; exact ⟨ds, pl, h1, hplan _ _ _ _ (fun F s => h _ F s) _ F s h2⟩
  | seq x y ihx ihy => intro N Q Q' h F s hh; exact ihx (fun e F s he => by cases e <;> first | exact ihy h F s he | exact h _ F s he) F s hh
  | cond c x y ihx ihy => intro N Q Q' h F s hh; exact hc _ _ _ _ _ (ihx h F s) (ihy h F s) hh
  | block id x ih =>
    intro N Q Q' h F s hh
    refine ih (fun e F s he => ?_) F s hh
    cases e with
    | exit i =>
      simp only at he ⊢
      split
      · rename_i hi; rw [if_pos hi] at he; exact h _ F s he
      · rename_i hi; rw [if_neg hi] at he; exact h _ F s he
    | _ => exact h _ F s he
  | loop x ih =>
    intro N Q Q' h F s hh
    obtain ⟨I, μ, h0, hr⟩ := hh
    exact ⟨I, μ, h0, fun F s hI => ih (fun e F' s' he => by cases e <;> first | exact he | exact h _ F' s' he) F s (hr F s hI)⟩
  | exit id => exact fun h F s hh => h _ F s hh
  | ret => exact fun h F s hh => h _ F s hh
  | rangeFunc g ps assign body ihA ihB =>
    intro N Q Q' h F s hh
    exact ⟨hh.1, hh.2.mono fun F s hh => by obtain ⟨f, caps, xs, I, h1, h2, h3, h4, h5, h6, h7⟩ := hh; exact ⟨f, caps, xs, I, h1, h2, h3, h4, h5, h6, fun s hs => h _ F s (h7 s hs)⟩⟩
  | _ => intro N Q Q' h F s hh; exact hh.elim
/-- A cut: R holds wherever the first part ends normally. -/
theorem AW_cut (x y : Code) (Q : Exit → Fr → St → Prop) (F : Fr) (s : St) (R : Fr → St → Prop) (h : AW P T N x (fun e F s => match e with | .normal => R F s | e => Q e F s) F s) (h' : ∀ F s, R F s → AW P T N y Q F s) : AW P T N (.seq x y) Q F s :=
  AW_mono x (fun e F s he => by cases e <;> first | exact h' F s he | exact he) F s h
theorem ADraw_mk {ops : Array Oper} {K : Fr → St → Prop} {F : Fr} {s : St} (ds : List Nat) (pl : Pl) (h : planOk ops ds pl = true) (h' : APlan P T N ops K pl F s) : ADraw P T N ops K F s := ⟨ds, pl, h, h'⟩
theorem Fsound.callP {g : Nat} {s : St} {args : List AV} {R : St → AV → Prop} {K : St → AV → Prop} (h : Fsound P g s args R) (h' : ∀ s' r, R s' r → K s' r) : callP P g s args K := ⟨R, h, h'⟩
/-- Less told of the result. -/
theorem Pure.le {f : Nat} {args : List AV} {rows : List RowC} {r r' : AV} (h : Pure P f args rows r) (hr : r.le r') : Pure P f args rows r' :=
  ⟨h.1, fun Im w vals hv => (h.2 Im w vals hv).mono fun _ _ ⟨φr, v, h1, h2, h3, h4⟩ => ⟨φr, v, h1, h2, h3, le_ok _ _ _ hr h4⟩⟩
theorem Pure.callC {f : Nat} {args : List AV} {rows : List RowC} {r : AV} (h : Pure P f args rows r) (a : Bool) {s : St} {xs : List AV} (he : AV.leL (AV.retL (Ret.arg s a) xs) args) {K : St → AV → Prop}
    (hk : K (addRows s a rows) (r.ret (Ret.res a s.row.length))) : callC P f s xs K := ⟨_, h.call a he, fun s' r' hh => by obtain ⟨rfl, rfl⟩ := hh; exact hk⟩
theorem Pure.callP {f : Nat} {args : List AV} {rows : List RowC} {r : AV} (h : Pure P f args rows r) (a : Bool) {s : St} {xs : List AV} (he : AV.leL (AV.retL (Ret.arg s a) xs) args) {K : St → AV → Prop}
    (hk : K (addRows s a rows) (r.ret (Ret.res a s.row.length))) : Go.Proofs.YtmcfgljdpjalfaaV.callP P f s xs K := ⟨_, (h.call a he).sound, fun s' r' hh => by obtain ⟨rfl, rfl⟩ := hh; exact hk⟩
end

/-! ### Typed slices -/
/-- An encoding that is told alike everywhere: no rows, no boxes, all slices old. -/
def Plain {α : Type} (e : α → AV) : Prop := ∀ a ρ, ρ.tk .ro = some .ro → (e a).ret ρ = e a
/-- An encoding without slices. -/
def Flat {α : Type} (e : α → AV) : Prop := ∀ a ρ, (e a).ret ρ = e a
theorem Flat.plain {α : Type} {e : α → AV} (h : Flat e) : Plain e := fun a ρ _ => h a ρ
theorem Plain.retL {α : Type} {e : α → AV} (h : Plain e) {ρ : Ret} (hr : ρ.tk .ro = some .ro) : ∀ l : List α, AV.retL ρ (l.map e) = l.map e
  | [] => rfl
  | a :: l => by simp [AV.retL, h a ρ hr, h.retL hr l]
theorem Flat.retL {α : Type} {e : α → AV} (h : Flat e) (ρ : Ret) : ∀ l : List α, AV.retL ρ (l.map e) = l.map e
  | [] => rfl
  | a :: l => by simp [AV.retL, h a ρ, h.retL ρ l]
theorem map_get {α : Type} (e : α → AV) (l : List α) (i : Nat) (h : i < l.length) : (l.map e)[i]? = some (e (l[i]'h)) := by simp [h]
theorem wrap_in (n : Int) (h1 : -9223372036854775808 ≤ n) (h2 : n ≤ 9223372036854775807) : IntKind.i64.wrap n = n := by rw [IntKind.wrap_i64]; omega
end Go.Proofs.YtmcfgljdpjalfaaV
