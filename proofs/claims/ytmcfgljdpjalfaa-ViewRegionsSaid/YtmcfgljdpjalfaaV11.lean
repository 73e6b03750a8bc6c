/- The abstract layer, eleventh text: the walk as a machine without functions: a stack of code, the operations that are left, the frame, the state. -/
import Derived.Test.YtmcfgljdpjalfaaV10
set_option linter.unusedVariables false
set_option linter.unusedSimpArgs false
set_option linter.constructorNameAsVariable false
set_option linter.unusedSectionVars false
namespace Go.Proofs.YtmcfgljdpjalfaaV
open Go.RowKit

/-- What is still to be walked: code; the end of a block; the end of a loop's round. -/
inductive It where
  | c (x : Code)
  | b (id : Nat)
  | l (I : Fr → St → Prop)
  | k (I : Fr → St → Prop)

section
variable (P : Program) (T : Tab) (N : En) (Q : Exit → Fr → St → Prop)
def Kt : List It → Exit → Fr → St → Prop
  | [], e => Q e
  | .c x :: r, e => match e with
    | .normal => AW P T N x (Kt r)
    | e => Kt r e
  | .b id :: r, e => match e with
    | .exit i => fun F s => if i = id then Kt r .normal F s else Kt r (.exit i) F s
    | e => Kt r e
  | .l I :: r, e => match e with
    | .normal => Wk I
    | e => Kt r e
  | .k I :: r, e => match e with
    | .normal => I
    | e => Kt r e
def Run (r : List It) (F : Fr) (s : St) : Prop := Kt P T N Q r .normal F s
def Rexit (r : List It) (i : Nat) (F : Fr) (s : St) : Prop := Kt P T N Q r (.exit i) F s
def ROps (ops : Array Oper) (l : List Oper) (r : List It) (F : Fr) (s : St) : Prop := AOps P T N ops (Run P T N Q r) l F s
def RDraw (ops : Array Oper) (r : List It) (F : Fr) (s : St) : Prop := ADraw P T N ops (Run P T N Q r) F s
def RPlan (ops : Array Oper) (pl : Pl) (r : List It) (F : Fr) (s : St) : Prop := APlan P T N ops (Run P T N Q r) pl F s
def condR (v : AV) (x y : Code) (r : List It) (F : Fr) (s : St) : Prop := condP v (Run P T N Q (.c x :: r) F s) (Run P T N Q (.c y :: r) F s)
/-- The rest behind an operation: of the text's order, or of a plan. -/
inductive Rest where
  | o (l : List Oper)
  | p (pl : Pl)
def RRest (ops : Array Oper) (t : Rest) (r : List It) (F : Fr) (s : St) : Prop := match t with | .o l => ROps P T N Q ops l r F s | .p pl => RPlan P T N Q ops pl r F s
def mkO (d : Option Nat) (op : Op) : Oper := { dst := d, op := op, type := 0, pos := "", after := #[], guard := none }
def Rest.en (t : Rest) (N : En) : En := ⟨N.n, N.top, match t with | .o _ => N.Y | .p _ => noY⟩
def opR (k : PK) (op : Op) (d : Option Nat) (ops : Array Oper) (t : Rest) (r : List It) (F : Fr) (s : St) : Prop := AOpK P T (t.en N) k (mkO d op) F s (RRest P T N Q ops t r)
def gR (v : AV) (b : Bool) (k : PK) (op : Op) (d : Option Nat) (ops : Array Oper) (t : Rest) (r : List It) (F : Fr) (s : St) : Prop :=
  guardP v b (opR P T N Q k op d ops t r F s) (dstOk N.n d ∧ RRest P T N Q ops t r (updO F d (.tup [])) s)
def gS (e : Option Nat) (b : Bool) (k : PK) (op : Op) (d : Option Nat) (ops : Array Oper) (t : Rest) (r : List It) (F : Fr) (s : St) : Prop := bindO e fun e => e < N.n ∧ gR P T N Q (F e) b k op d ops t r F s
def valP (o : Option AV) (d : Option Nat) (ops : Array Oper) (t : Rest) (r : List It) (F : Fr) (s : St) : Prop := dstOk N.n d ∧ bindO o fun x => RRest P T N Q ops t r (updO F d x) s
def valE (o : Option (AV × St)) (d : Option Nat) (ops : Array Oper) (t : Rest) (r : List It) (F : Fr) : Prop := dstOk N.n d ∧ bindO o fun p => RRest P T N Q ops t r (updO F d p.1) p.2
def valS (o : Option St) (d : Option Nat) (ops : Array Oper) (t : Rest) (r : List It) (F : Fr) : Prop := d = none ∧ bindO o fun s' => RRest P T N Q ops t r F s'
def callR (k : PK) (f : Option (Nat × List AV)) (args : List AV) (d : Option Nat) (ops : Array Oper) (t : Rest) (r : List It) (F : Fr) (s : St) : Prop :=
  bindO f fun p => match k with
    | .x => callP P p.1 s (args ++ p.2) fun s' y => RRest P T N Q ops t r (updO F d y) s'
    | _ => callC P p.1 s (args ++ p.2) fun s' y => RRest P T N Q ops t r (updO F d y) s'
def callW (k : PK) (f : Operand) (args : List Operand) (d : Option Nat) (ops : Array Oper) (t : Rest) (r : List It) (F : Fr) (s : St) : Prop :=
  dstOk N.n d ∧ (Wk (fun F s => callR P T N Q k (fnOf (look F f)) (args.map (look F)) d ops t r F s) F s ∨ (k = .x ∧ ∃ l R, look F f = .yld l ∧ (t.en N).Y l s (args.map (look F)) R ∧ ∀ s' y, R s' y → RRest P T N Q ops t r (updO F d y) s'))
end

section
variable {P : Program} {T : Tab} {N : En} {Q : Exit → Fr → St → Prop}
theorem AW_congrQ {c : Code} {Q Q' : Exit → Fr → St → Prop} (h : ∀ e, Q e = Q' e) : AW P T N c Q = AW P T N c Q' := by
  have : Q = Q' := funext h
  rw [this]
theorem kt_ret (r : List It) : Kt P T N Q r .ret = Q .ret := by
  induction r with
  | nil => rfl
  | cons x r ih => cases x <;> exact ih
theorem run_nil (F : Fr) (s : St) : Run P T N Q [] F s = Q .normal F s := rfl
theorem run_seq (x y : Code) (r : List It) (F : Fr) (s : St) : Run P T N Q (.c (.seq x y) :: r) F s = Run P T N Q (.c x :: .c y :: r) F s := by
  show AW P T N (.seq x y) (Kt P T N Q r) F s = AW P T N x (Kt P T N Q (.c y :: r)) F s
  rw [AW_seq]
  exact congrFun (congrFun (AW_congrQ fun e => by funext F s; cases e <;> rfl) F) s
theorem run_skip (r : List It) (F : Fr) (s : St) : Run P T N Q (.c .skip :: r) F s = Run P T N Q r F s := rfl
theorem run_region (i : Nat) (ops : Array Oper) (r : List It) (F : Fr) (s : St) : Run P T N Q (.c (.region i ops false) :: r) F s = ROps P T N Q ops ops.toList r F s := rfl
theorem run_draw (i : Nat) (ops : Array Oper) (r : List It) (F : Fr) (s : St) : Run P T N Q (.c (.region i ops true) :: r) F s = RDraw P T N Q ops r F s := rfl
theorem run_cond (c : Operand) (x y : Code) (r : List It) (F : Fr) (s : St) : Run P T N Q (.c (.cond c x y) :: r) F s = condR P T N Q (look F c) x y r F s := rfl
theorem run_block (id : Nat) (x : Code) (r : List It) (F : Fr) (s : St) : Run P T N Q (.c (.block id x) :: r) F s = Run P T N Q (.c x :: .b id :: r) F s := by
  show AW P T N (.block id x) (Kt P T N Q r) F s = AW P T N x (Kt P T N Q (.b id :: r)) F s
  rw [AW_block]
  exact congrFun (congrFun (AW_congrQ fun e => by funext F s; cases e <;> rfl) F) s
theorem run_exit (i : Nat) (r : List It) (F : Fr) (s : St) : Run P T N Q (.c (.exit i) :: r) F s = Rexit P T N Q r i F s := rfl
theorem run_ret (r : List It) (F : Fr) (s : St) : Run P T N Q (.c .ret :: r) F s = Q .ret F s := by
  show Kt P T N Q r .ret F s = _
  rw [kt_ret]
theorem run_b (id : Nat) (r : List It) (F : Fr) (s : St) : Run P T N Q (.b id :: r) F s = Run P T N Q r F s := rfl
theorem run_k (I : Fr → St → Prop) (r : List It) (F : Fr) (s : St) : Run P T N Q (.k I :: r) F s = I F s := rfl
theorem run_l (I : Fr → St → Prop) (r : List It) (F : Fr) (s : St) : Run P T N Q (.l I :: r) F s = Wk I F s := rfl
theorem rexit_c (x : Code) (r : List It) (i : Nat) (F : Fr) (s : St) : Rexit P T N Q (.c x :: r) i F s = Rexit P T N Q r i F s := rfl
theorem rexit_k (I : Fr → St → Prop) (r : List It) (i : Nat) (F : Fr) (s : St) : Rexit P T N Q (.k I :: r) i F s = Rexit P T N Q r i F s := rfl
theorem rexit_l (I : Fr → St → Prop) (r : List It) (i : Nat) (F : Fr) (s : St) : Rexit P T N Q (.l I :: r) i F s = Rexit P T N Q r i F s := rfl
theorem rexit_b (id : Nat) (r : List It) (i : Nat) (F : Fr) (s : St) : Rexit P T N Q (.b id :: r) i F s = if i = id then Run P T N Q r F s else Rexit P T N Q r i F s := rfl
theorem condR_true (x y : Code) (r : List It) (F : Fr) (s : St) : condR P T N Q (.bool true) x y r F s = Run P T N Q (.c x :: r) F s := condP_true ..
theorem condR_false (x y : Code) (r : List It) (F : Fr) (s : St) : condR P T N Q (.bool false) x y r F s = Run P T N Q (.c y :: r) F s := condP_false ..
theorem condR_ub {x y : Code} {r : List It} {F : Fr} {s : St} (h : Run P T N Q (.c x :: r) F s) (h' : Run P T N Q (.c y :: r) F s) : condR P T N Q .ub x y r F s := ⟨h, h'⟩
theorem condR_mk {b : Bool} {x y : Code} {r : List It} {F : Fr} {s : St} (h : b = true → Run P T N Q (.c x :: r) F s) (h' : b = false → Run P T N Q (.c y :: r) F s) : condR P T N Q (.bool b) x y r F s := ⟨h, h'⟩
/-- A loop: what holds at its head (perhaps told anew), and what each round lowers. -/
theorem run_loop {x : Code} {r : List It} {F : Fr} {s : St} (I : Fr → St → Prop) (μ : Fr → St → Nat) (h0 : Wk I F s)
    (hr : ∀ F s, I F s → Run P T N Q (.c x :: .l (fun F' s' => I F' s' ∧ μ F' s' < μ F s) :: r) F s) : Run P T N Q (.c (.loop x) :: r) F s := by
  show AW P T N (.loop x) (Kt P T N Q r) F s
  refine AW_loop x _ F s I μ h0 fun F s hI => ?_
  refine AW_mono x (fun e F' s' he => ?_) F s (hr F s hI)
  cases e <;> exact he
/-- A cut: R holds where the first part ends. -/
theorem run_cut {x : Code} {r : List It} {F : Fr} {s : St} (R : Fr → St → Prop) (h : Run P T N Q (.c x :: .k R :: r) F s) (h' : ∀ F s, R F s → Run P T N Q r F s) : Run P T N Q (.c x :: r) F s := by
  show AW P T N x (Kt P T N Q r) F s
  refine AW_mono x (fun e F' s' he => ?_) F s h
  cases e <;> first | exact h' F' s' he | exact he
theorem rops_nil (ops : Array Oper) (r : List It) (F : Fr) (s : St) : ROps P T N Q ops [] r F s = Run P T N Q r F s := rfl
theorem rplan_nil (ops : Array Oper) (r : List It) (F : Fr) (s : St) : RPlan P T N Q ops .nil r F s = Run P T N Q r F s := rfl
theorem aop_mkO (o : Oper) (F : Fr) (s : St) (K : Fr → St → Prop) : AOp P T N o F s K = AOp P T N (mkO o.dst o.op) F s K := rfl
theorem aopk_mkO (k : PK) (o : Oper) (F : Fr) (s : St) (K : Fr → St → Prop) : AOpK P T N k o F s K = AOpK P T N k (mkO o.dst o.op) F s K := by cases k <;> rfl
theorem rops_cons (d : Option Nat) (op : Op) (ty : Nat) (pos : String) (aft : Array Edge) (l : List Oper) (ops : Array Oper) (r : List It) (F : Fr) (s : St) :
    ROps P T N Q ops (⟨d, op, ty, pos, aft, none⟩ :: l) r F s = opR P T N Q .x op d ops (.o l) r F s := rfl
theorem rops_guard (d : Option Nat) (op : Op) (ty : Nat) (pos : String) (aft : Array Edge) (j : Nat) (b : Bool) (l : List Oper) (ops : Array Oper) (r : List It) (F : Fr) (s : St) :
    ROps P T N Q ops (⟨d, op, ty, pos, aft, some (j, b)⟩ :: l) r F s = gS P T N Q (gslot ops j) b .x op d ops (.o l) r F s := by
  cases b <;> rfl
def planR (P : Program) (T : Tab) (N : En) (Q : Exit → Fr → St → Prop) (o : Option Oper) (k : PK) (ops : Array Oper) (pl : Pl) (r : List It) (F : Fr) (s : St) : Prop :=
  bindO o fun o => AGuard N ops o F (AOpK P T N.noY k o F s (RPlan P T N Q ops pl r)) (RPlan P T N Q ops pl r (updO F o.dst (.tup [])) s)
theorem rplan_cons (i : Nat) (k : PK) (pl : Pl) (ops : Array Oper) (r : List It) (F : Fr) (s : St) : RPlan P T N Q ops (.go i k pl) r F s = planR P T N Q (ops[i]?) k ops pl r F s := rfl
theorem rplan_two (i : Nat) (k : PK) (pl : Pl) (j : Nat) (l : PK) (q : Pl) (ops : Array Oper) (r : List It) (F : Fr) (s : St) : RPlan P T N Q ops (.two i k pl j l q) r F s = (planR P T N Q (ops[i]?) k ops pl r F s ∧ planR P T N Q (ops[j]?) l ops q r F s) := rfl
theorem planR_some (d : Option Nat) (op : Op) (ty : Nat) (pos : String) (aft : Array Edge) (k : PK) (ops : Array Oper) (pl : Pl) (r : List It) (F : Fr) (s : St) :
    planR P T N Q (some ⟨d, op, ty, pos, aft, none⟩) k ops pl r F s = opR P T N Q k op d ops (.p pl) r F s := by
  show AOpK P T N.noY k _ F s _ = _
  rw [aopk_mkO]
  rfl
theorem planR_guard (d : Option Nat) (op : Op) (ty : Nat) (pos : String) (aft : Array Edge) (j : Nat) (b : Bool) (k : PK) (ops : Array Oper) (pl : Pl) (r : List It) (F : Fr) (s : St) :
    planR P T N Q (some ⟨d, op, ty, pos, aft, some (j, b)⟩) k ops pl r F s = gS P T N Q (gslot ops j) b k op d ops (.p pl) r F s := by
  cases b <;> (simp only [planR, bindO_some, AGuard, gS, gR]; rw [aopk_mkO]; rfl)
theorem rrest_o (ops : Array Oper) (l : List Oper) (r : List It) (F : Fr) (s : St) : RRest P T N Q ops (.o l) r F s = ROps P T N Q ops l r F s := rfl
theorem rrest_p (ops : Array Oper) (l : Pl) (r : List It) (F : Fr) (s : St) : RRest P T N Q ops (.p l) r F s = RPlan P T N Q ops l r F s := rfl
section
variable (k : PK) (op : Op) (d : Option Nat) (e : Nat) (ops : Array Oper) (t : Rest) (r : List It) (F : Fr) (s : St) (b : Bool)
theorem gS_some : gS P T N Q (some e) b k op d ops t r F s = (e < N.n ∧ gR P T N Q (F e) b k op d ops t r F s) := rfl
theorem gR_tt : gR P T N Q (.bool true) true k op d ops t r F s = opR P T N Q k op d ops t r F s := by simp [gR, guardP]
theorem gR_ff : gR P T N Q (.bool false) false k op d ops t r F s = opR P T N Q k op d ops t r F s := by simp [gR, guardP]
theorem gR_ft : gR P T N Q (.bool false) true k op d ops t r F s = (dstOk N.n d ∧ RRest P T N Q ops t r (updO F d (.tup [])) s) := by simp [gR, guardP]
theorem gR_tf : gR P T N Q (.bool true) false k op d ops t r F s = (dstOk N.n d ∧ RRest P T N Q ops t r (updO F d (.tup [])) s) := by simp [gR, guardP]
theorem gR_tup (xs : List AV) : gR P T N Q (.tup xs) b k op d ops t r F s = (dstOk N.n d ∧ RRest P T N Q ops t r (updO F d (.tup [])) s) := rfl
theorem valP_some (x : AV) : valP P T N Q (some x) (some e) ops t r F s = (e < N.n ∧ RRest P T N Q ops t r (upd F e x) s) := rfl
theorem valP_none (x : AV) : valP P T N Q (some x) none ops t r F s = RRest P T N Q ops t r F s := by simp [valP, dstOk, bindO_some, updO]
theorem valE_some (x : AV) (s' : St) : valE P T N Q (some (x, s')) (some e) ops t r F = (e < N.n ∧ RRest P T N Q ops t r (upd F e x) s') := rfl
theorem valE_none (x : AV) (s' : St) : valE P T N Q (some (x, s')) none ops t r F = RRest P T N Q ops t r F s' := by simp [valE, dstOk, bindO_some, updO]
theorem valS_some (s' : St) : valS P T N Q (some s') none ops t r F = RRest P T N Q ops t r F s' := by simp [valS, bindO_some]
theorem mapp (o : Option AV) (K : AV × St → Prop) : bindO (o.map fun x => (x, s)) K = bindO o fun x => K (x, s) := by cases o <;> rfl
end
def plainOp : Op → Bool | .store .. | .mapUpdate .. | .insert .. | .entryStore .. | .call .. => false | _ => true
section
variable (d : Option Nat) (ops : Array Oper) (t : Rest) (r : List It) (F : Fr) (s : St)
/-- Plain values, told as x or as p. -/
theorem opR_xp (op : Op) (h : ev T F s op = (evP T F s op).map fun x => (x, s)) (h1 : plainOp op = true) : opR P T N Q .x op d ops t r F s = valP P T N Q (evP T F s op) d ops t r F s := by
  have : opR P T N Q .x op d ops t r F s = (dstOk N.n d ∧ bindO (ev T F s op) fun p => RRest P T N Q ops t r (updO F d p.1) p.2) := by
    unfold opR AOpK AOp
    cases op <;> first | rfl | (simp [plainOp] at h1)
  rw [this, h, mapp]
  rfl
theorem opR_move (x : Operand) : opR P T N Q .x (.move x) d ops t r F s = valP P T N Q (some (look F x)) d ops t r F s := rfl
theorem opR_assign (x : Operand) : opR P T N Q .x (.assign x) d ops t r F s = valP P T N Q (some (look F x)) d ops t r F s := rfl
theorem opR_pick (c a b : Operand) : opR P T N Q .x (.pick c a b) d ops t r F s = valP P T N Q (evP T F s (.pick c a b)) d ops t r F s := opR_xp _ _ _ _ _ _ _ rfl rfl
theorem opR_binOp (op : BinOp) (xt yt : Nat) (x y : Operand) : opR P T N Q .x (.binOp op xt x y yt) d ops t r F s = valP P T N Q (binAV T op xt (look F x) (look F y)) d ops t r F s := opR_xp _ _ _ _ _ _ _ rfl rfl
theorem opR_unOp (op : UnOp) (xt : Nat) (x : Operand) : opR P T N Q .x (.unOp op xt x) d ops t r F s = valP P T N Q (unAV op (look F x)) d ops t r F s := opR_xp _ _ _ _ _ _ _ rfl rfl
theorem opR_convert (a b : Nat) (x : Operand) : opR P T N Q .x (.convert a b x) d ops t r F s = valP P T N Q (match convAV T a b (look F x) with | some y => some y | none => bytesAV T s a b (look F x)) d ops t r F s := by
  show (dstOk N.n d ∧ bindO ((match convAV T a b (look F x) with | some y => some y | none => bytesAV T s a b (look F x)).map fun x => (x, s)) fun p => RRest P T N Q ops t r (updO F d p.1) p.2) = _
  rw [mapp]
  rfl
theorem opR_convertl (a b : Nat) (x : Operand) : opR P T N Q .l (.convert a b x) d ops t r F s = valP P T N Q (bytesAV T s a b (look F x)) d ops t r F s := rfl
theorem opR_clear (x : Operand) (ty : Nat) : opR P T N Q .x (.call ⟨.builtin .clear, #[x], #[ty]⟩) d ops t r F s = valE P T N Q (clearAV T s ty (look F x)) d ops t r F := rfl
theorem opR_extract (x : Operand) (i : Nat) : opR P T N Q .x (.extract x i) d ops t r F s = valP P T N Q (evP T F s (.extract x i)) d ops t r F s := opR_xp _ _ _ _ _ _ _ rfl rfl
theorem opR_field (st f : Nat) (x : Operand) : opR P T N Q .x (.field st x f) d ops t r F s = valP P T N Q (fieldAV T st f (look F x)) d ops t r F s := opR_xp _ _ _ _ _ _ _ rfl rfl
theorem opR_fieldAddr (st f : Nat) (x : Operand) : opR P T N Q .x (.fieldAddr st x f) d ops t r F s = valP P T N Q (fieldAddrAV T s st f (look F x)) d ops t r F s := opR_xp _ _ _ _ _ _ _ rfl rfl
theorem opR_indexAddr (ty : Nat) (x y : Operand) : opR P T N Q .x (.indexAddr ty x y) d ops t r F s = valP P T N Q (indexAddrAV T s ty (look F x) (look F y)) d ops t r F s := opR_xp _ _ _ _ _ _ _ rfl rfl
theorem opR_index (ty : Nat) (x y : Operand) : opR P T N Q .x (.index ty x y) d ops t r F s = valP P T N Q (indexAV T ty (look F x) (look F y)) d ops t r F s := opR_xp _ _ _ _ _ _ _ rfl rfl
theorem opR_slice (ty : Nat) (x : Operand) (lo hi : Option Operand) : opR P T N Q .x (.slice ty x lo hi none) d ops t r F s = valP P T N Q (sliceAV T s ty (look F x) (lo.map (look F)) (hi.map (look F))) d ops t r F s := opR_xp _ _ _ _ _ _ _ rfl rfl
theorem opR_makeFunc (f : Fn) (a b : Array Operand) : opR P T N Q .x (.makeFunc f a b) d ops t r F s = valP P T N Q (evP T F s (.makeFunc f a b)) d ops t r F s := opR_xp _ _ _ _ _ _ _ rfl rfl
theorem opR_build (ty : Nat) (ps : Array (Nat × Operand)) : opR P T N Q .x (.build ty ps) d ops t r F s = valP P T N Q (buildAV T s ty (ps.toList.map fun p => (p.1, look F p.2))) d ops t r F s := opR_xp _ _ _ _ _ _ _ rfl rfl
theorem opR_load (ty : Nat) (x : Operand) : opR P T N Q .x (.load ty x) d ops t r F s = valP P T N Q (loadAV T s ty (look F x)) d ops t r F s := by
  show (dstOk N.n d ∧ bindO ((loadAV T s ty (look F x)).map fun x => (x, s)) fun p => RRest P T N Q ops t r (updO F d p.1) p.2) = _
  rw [mapp]
  rfl
theorem opR_loadl (ty : Nat) (x : Operand) : opR P T N Q .l (.load ty x) d ops t r F s = valP P T N Q (loadAV T s ty (look F x)) d ops t r F s := rfl
theorem opR_p (op : Op) : opR P T N Q .p op d ops t r F s = valP P T N Q (evP T F s op) d ops t r F s := rfl
theorem opR_store (ty : Nat) (a x : Operand) : opR P T N Q .x (.store ty a x) d ops t r F s = valS P T N Q (storeAV T s ty (look F a) (look F x)) d ops t r F := rfl
theorem opR_makeMap (ty : Nat) : opR P T N Q .x (.makeMap ty none) d ops t r F s = valE P T N Q (makeMapAV T s ty) d ops t r F := rfl
theorem opR_makeMapc (ty : Nat) : opR P T N Q .c (.makeMap ty none) d ops t r F s = valE P T N Q (makeMapAV T s ty) d ops t r F := rfl
theorem opR_mapEntry (ty : Nat) (m k : Operand) : opR P T N Q .x (.mapEntry ty m k) d ops t r F s = valE P T N Q (mapEntryAV T s ty (look F m) (look F k)) d ops t r F := rfl
theorem opR_lookup (ty : Nat) (m k : Operand) (ok : Bool) : opR P T N Q .x (.lookup ty m k ok) d ops t r F s = valP P T N Q (lookupAV T s ty (look F m) (look F k) ok) d ops t r F s := by
  show (dstOk N.n d ∧ bindO ((lookupAV T s ty (look F m) (look F k) ok).map fun x => (x, s)) fun p => RRest P T N Q ops t r (updO F d p.1) p.2) = _
  rw [mapp]
  rfl
theorem opR_lookupl (ty : Nat) (m k : Operand) (ok : Bool) : opR P T N Q .l (.lookup ty m k ok) d ops t r F s = valP P T N Q (lookupAV T s ty (look F m) (look F k) ok) d ops t r F s := rfl
theorem opR_mapUpdate (ty : Nat) (m k x : Operand) : opR P T N Q .x (.mapUpdate ty m k x) d ops t r F s = valS P T N Q (mapUpdateAV T s ty (look F m) (look F k) (look F x)) d ops t r F := rfl
theorem opR_insert (ty : Nat) (m k x : Operand) : opR P T N Q .x (.insert ty m k x) d ops t r F s = valS P T N Q (mapUpdateAV T s ty (look F m) (look F k) (look F x)) d ops t r F := rfl
theorem opR_entryStore (ty : Nat) (m i x : Operand) : opR P T N Q .x (.entryStore ty m i x) d ops t r F s = valS P T N Q (entryStoreAV T s ty (look F m) (look F i) (look F x)) d ops t r F := rfl
theorem opR_alloc (ty : Nat) : opR P T N Q .x (.alloc ty) d ops t r F s = valE P T N Q (allocAV T s ty) d ops t r F := rfl
theorem opR_box (ty : Nat) (x : Operand) : opR P T N Q .x (.box ty x) d ops t r F s = valE P T N Q (boxAV s ty (look F x)) d ops t r F := rfl
theorem opR_buildSlice (ty n : Nat) (ps : Array (Nat × Operand)) : opR P T N Q .x (.buildSlice ty n ps) d ops t r F s = valE P T N Q (buildSliceAV T s ty n (ps.toList.map fun p => (p.1, look F p.2))) d ops t r F := rfl
theorem opR_makeSlice (ty : Nat) (a b : Operand) : opR P T N Q .x (.makeSlice ty a b) d ops t r F s = valE P T N Q (makeSliceAV T s ty (look F a) (look F b)) d ops t r F := rfl
theorem opR_allocc (ty : Nat) : opR P T N Q .c (.alloc ty) d ops t r F s = valE P T N Q (allocAV T s ty) d ops t r F := by
  show (isNew (.alloc ty) = true ∧ _) = _
  simp [isNew]
  rfl
theorem opR_boxc (ty : Nat) (x : Operand) : opR P T N Q .c (.box ty x) d ops t r F s = valE P T N Q (boxAV s ty (look F x)) d ops t r F := by
  show (isNew (.box ty x) = true ∧ _) = _
  simp [isNew]
  rfl
theorem opR_buildSlicec (ty n : Nat) (ps : Array (Nat × Operand)) : opR P T N Q .c (.buildSlice ty n ps) d ops t r F s = valE P T N Q (buildSliceAV T s ty n (ps.toList.map fun p => (p.1, look F p.2))) d ops t r F := by
  show (isNew (.buildSlice ty n ps) = true ∧ _) = _
  simp [isNew]
  rfl
theorem opR_makeSlicec (ty : Nat) (a b : Operand) : opR P T N Q .c (.makeSlice ty a b) d ops t r F s = valE P T N Q (makeSliceAV T s ty (look F a) (look F b)) d ops t r F := by
  show (isNew (.makeSlice ty a b) = true ∧ _) = _
  simp [isNew]
  rfl
theorem opR_len (x : Operand) (ty : Nat) : opR P T N Q .x (.call ⟨.builtin .len, #[x], #[ty]⟩) d ops t r F s = valP P T N Q (lenAV T s ty (look F x)) d ops t r F s := by
  show (dstOk N.n d ∧ bindO ((lenAV T s ty (look F x)).map fun x => (x, s)) fun p => RRest P T N Q ops t r (updO F d p.1) p.2) = _
  rw [mapp]
  rfl
theorem opR_append (x y : Operand) (ty ty' : Nat) : opR P T N Q .x (.call ⟨.builtin .append, #[x, y], #[ty, ty']⟩) d ops t r F s = valE P T N Q (if ty = ty' then appendAV T s ty (look F x) (look F y) else none) d ops t r F := rfl
theorem opR_call (f : Operand) (args : Array Operand) (tys : Array Nat) : opR P T N Q .x (.call ⟨.value f, args, tys⟩) d ops t r F s = callW P T N Q .x f args.toList d ops t r F s := by
  unfold callW
  simp only [true_and]
  rfl
theorem opR_callc (f : Operand) (args : Array Operand) (tys : Array Nat) : opR P T N Q .c (.call ⟨.value f, args, tys⟩) d ops t r F s = callW P T N Q .c f args.toList d ops t r F s := by
  unfold callW
  simp only [reduceCtorEq, false_and, or_false]
  rfl
end
theorem callW_of {k : PK} {f : Operand} {args : List Operand} {d : Option Nat} {ops : Array Oper} {t : Rest} {r : List It} {F : Fr} {s : St} (hd : dstOk N.n d) (h : callR P T N Q k (fnOf (look F f)) (args.map (look F)) d ops t r F s) : callW P T N Q k f args d ops t r F s := ⟨hd, .inl (.here h)⟩
/-- A call of yield. -/
theorem callW_yld {f : Operand} {args : List Operand} {d : Option Nat} {ops : Array Oper} {l' : List Oper} {r : List It} {F : Fr} {s : St} {l : Nat} {R : St → AV → Prop} (hd : dstOk N.n d) (hf : look F f = .yld l) (hy : N.Y l s (args.map (look F)) R) (h : ∀ s' y, R s' y → ROps P T N Q ops l' r (updO F d y) s') : callW P T N Q .x f args d ops (.o l') r F s := ⟨hd, .inr ⟨rfl, l, R, hf, hy, h⟩⟩
theorem callW_by {k : PK} {f : Operand} {args : List Operand} {d : Option Nat} {ops : Array Oper} {t : Rest} {r : List It} {F F1 : Fr} {s s1 : St} (hW : Weak F s F1 s1) (h : dstOk N.n d ∧ Wk (fun F s => callR P T N Q k (fnOf (look F f)) (args.map (look F)) d ops t r F s) F1 s1) : callW P T N Q k f args d ops t r F s := ⟨h.1, .inl (.by hW h.2)⟩
theorem callW_here {k : PK} {f : Operand} {args : List Operand} {d : Option Nat} {ops : Array Oper} {t : Rest} {r : List It} {F : Fr} {s : St} (hd : dstOk N.n d) (h : callR P T N Q k (fnOf (look F f)) (args.map (look F)) d ops t r F s) : dstOk N.n d ∧ Wk (fun F s => callR P T N Q k (fnOf (look F f)) (args.map (look F)) d ops t r F s) F s := ⟨hd, .here h⟩
theorem Pure.run {f : Nat} {args : List AV} {rows : List RowC} {y : AV} (h : Pure P f args rows y) (a : Bool) {k : PK} {caps xs : List AV} {d : Option Nat} {ops : Array Oper} {t : Rest} {r : List It} {F : Fr} {s : St} (he : AV.leL (AV.retL (Ret.arg s a) (xs ++ caps)) args)
    (hk : RRest P T N Q ops t r (updO F d (y.ret (Ret.res a s.row.length))) (addRows s a rows)) : callR P T N Q k (some (f, caps)) xs d ops t r F s := by
  cases k with
  | x => exact h.callP a he hk
  | _ => exact h.callC a he hk
theorem Fsound.run {g : Nat} {s : St} {xs caps : List AV} {R : St → AV → Prop} (h : Fsound P g s (xs ++ caps) R) {d : Option Nat} {ops : Array Oper} {t : Rest} {r : List It} {F : Fr}
    (hk : ∀ s' y, R s' y → RRest P T N Q ops t r (updO F d y) s') : callR P T N Q .x (some (g, caps)) xs d ops t r F s := ⟨R, h, hk⟩
theorem Fclean.run {g : Nat} {s : St} {xs caps : List AV} {R : St → AV → Prop} (h : Fclean P g s (xs ++ caps) R) {k : PK} {d : Option Nat} {ops : Array Oper} {t : Rest} {r : List It} {F : Fr}
    (hk : ∀ s' y, R s' y → RRest P T N Q ops t r (updO F d y) s') : callR P T N Q k (some (g, caps)) xs d ops t r F s := by
  cases k with
  | x => exact ⟨R, h.sound, hk⟩
  | _ => exact ⟨R, h, hk⟩
theorem gR_ub {k : PK} {op : Op} {d : Option Nat} {ops : Array Oper} {t : Rest} {r : List It} {F : Fr} {s : St} {b : Bool} (h : opR P T N Q k op d ops t r F s) (h' : dstOk N.n d ∧ RRest P T N Q ops t r (updO F d (.tup [])) s) : gR P T N Q .ub b k op d ops t r F s := ⟨h, h'⟩
theorem gR_mk {k : PK} {op : Op} {d : Option Nat} {ops : Array Oper} {t : Rest} {r : List It} {F : Fr} {s : St} {b v : Bool} (h : v = true → gR P T N Q (.bool true) b k op d ops t r F s) (h' : v = false → gR P T N Q (.bool false) b k op d ops t r F s) : gR P T N Q (.bool v) b k op d ops t r F s := by
  cases v
  · exact h' rfl
  · exact h rfl
theorem RDraw_mk {ops : Array Oper} {r : List It} {F : Fr} {s : St} (ds : List Nat) (pl : Pl) (h : planOk ops ds pl = true) (h' : RPlan P T N Q ops pl r F s) : RDraw P T N Q ops r F s := ⟨ds, pl, h, h'⟩
end
/-- A loop over a function: what holds between the rounds, and one round. -/
theorem run_range {P : Program} {T : Tab} {N : En} {Q : Exit → Fr → St → Prop} {g : Operand} {ps : Array Nat} {assign body : Code} {r : List It} {F : Fr} {s : St} (f : Nat) (caps : List AV) (xs : List (List AV)) (I : Nat → St → Prop) (htop : N.top = true) (hg : look F g = .fn f caps) (hit : IterOk P f caps xs I) (hlen : ∀ x ∈ xs, x.length = ps.size)
    (hps : ∀ p ∈ ps.toList, p < N.n) (h0 : I 0 s) (hr : ∀ i x s, xs[i]? = some x → I i s → Run P T N.body (fun _ _ _ => False) [.c assign, .c body, .l (fun _ s => I (i + 1) s)] (updL F ps.toList x) s) (hd : ∀ s, I xs.length s → Run P T N Q r F s) : Run P T N Q (.c (.rangeFunc g ps assign body) :: r) F s := by
  show AW P T N (.rangeFunc g ps assign body) (Kt P T N Q r) F s
  refine ⟨htop, .here ⟨f, caps, xs, I, hg, hit, hlen, hps, h0, fun i x s hx hI => ?_, hd⟩⟩
  refine AW_mono assign (fun e F' s' he => ?_) _ _ (hr i x s hx hI)
  cases e with
  | normal =>
    refine AW_mono body (fun e F' s' he => ?_) _ _ he
    cases e with
    | normal => exact he
    | _ => exact he
  | _ => exact he
theorem run_range_weak {P : Program} {T : Tab} {N : En} {Q : Exit → Fr → St → Prop} {g : Operand} {ps : Array Nat} {assign body : Code} {r : List It} {F F1 : Fr} {s s1 : St} (hW : Weak F s F1 s1) (h : Run P T N Q (.c (.rangeFunc g ps assign body) :: r) F1 s1) : Run P T N Q (.c (.rangeFunc g ps assign body) :: r) F s := by
  have h' : AW P T N (.rangeFunc g ps assign body) (Kt P T N Q r) F1 s1 := h
  obtain ⟨h1, h2⟩ := h'
  exact ⟨h1, .by hW h2⟩
/-- From the walk of an iterator's body, to what a loop over it asks. -/
theorem IterOk.of_run {P : Program} {f : Nat} {fn : Func} {c : Code} (hm : P.follows .mixedOrders = true) (hf : P.funcs[f]? = some fn) (hname : (fn.name == "runtime.NumGoroutine") = false) (hb : fn.body = some c)
    {n : Nat} {caps : List AV} (hN : fn.ntmps = n ∧ caps.length + 1 ≤ n) {xs : List (List AV)} {I : Nat → St → Prop}
    (h : ∀ l s, I 0 s → Run P (tabOf P) ⟨n, true, roundsY xs I l⟩ (RetQ (tabOf P) fn.results.toList fun s' _ => I xs.length s') [.c c] (F0 (.yld l :: caps)) s) : IterOk P f caps xs I :=
  ⟨enters_of' hf hname hb, fun l s h0 => Ysound.of_AW (tabOf_ok P) hm hf hb hN (h l s h0)⟩
/-- From the walk of a body to a contract. -/
theorem Pure.of_run {P : Program} {f : Nat} {fn : Func} {c : Code} (hm : P.follows .mixedOrders = true) (hf : P.funcs[f]? = some fn) (hname : (fn.name == "runtime.NumGoroutine") = false) (hb : fn.body = some c)
    {n : Nat} {args : List AV} (hN : fn.ntmps = n ∧ args.length ≤ n) {rows : List RowC} {r : AV} (h : Run P (tabOf P) ⟨n, true, noY⟩ (RetQ (tabOf P) fn.results.toList fun s' r' => Conv s' r' rows r) [.c c] (F0 args) St.empty) : Pure P f args rows r :=
  Fsound.pure (Fsound.of_AW (tabOf_ok P) hm hf hname hb hN h)
theorem Fsound.of_run {P : Program} {f : Nat} {fn : Func} {c : Code} (hm : P.follows .mixedOrders = true) (hf : P.funcs[f]? = some fn) (hname : (fn.name == "runtime.NumGoroutine") = false) (hb : fn.body = some c)
    {n : Nat} {args : List AV} (hN : fn.ntmps = n ∧ args.length ≤ n) {s : St} {R : St → AV → Prop} (h : Run P (tabOf P) ⟨n, true, noY⟩ (RetQ (tabOf P) fn.results.toList R) [.c c] (F0 args) s) : Fsound P f s args R :=
  Fsound.of_AW (tabOf_ok P) hm hf hname hb hN h
end Go.Proofs.YtmcfgljdpjalfaaV
