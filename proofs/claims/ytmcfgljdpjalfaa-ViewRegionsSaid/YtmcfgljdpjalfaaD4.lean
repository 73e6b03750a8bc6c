/- Crowds: what is computed. -/
import Derived.Test.YtmcfgljdpjalfaaD3
set_option linter.unusedVariables false
set_option linter.unusedSimpArgs false
set_option linter.constructorNameAsVariable false
set_option linter.unusedSectionVars false
namespace Go.Proofs.YtmcfgljdpjalfaaV
open Go.RowKit Go.Proofs
attribute [local simp ↓] run_nil run_seq run_skip run_region run_draw run_cond run_block run_exit run_ret run_b run_l run_k rexit_c rexit_l rexit_k rexit_b rops_nil rplan_nil rops_cons rops_guard rplan_cons rplan_two condR_true condR_false
attribute [local simp] planR_some planR_guard rrest_o rrest_p gS_some gR_tt gR_ff gR_ft gR_tf gR_tup valP_some valP_none valE_some valE_none valS_some opR_move opR_assign opR_pick opR_binOp opR_unOp opR_convert opR_convertl opR_extract opR_field opR_fieldAddr opR_indexAddr opR_index opR_slice opR_makeFunc opR_build opR_load opR_loadl opR_p opR_store opR_alloc opR_box opR_buildSlice opR_makeSlice opR_allocc opR_boxc opR_buildSlicec opR_makeSlicec opR_len opR_append opR_clear opR_call opR_callc opR_makeMap opR_makeMapc opR_mapEntry opR_lookup opR_lookupl opR_mapUpdate opR_insert opR_entryStore
attribute [local simp] evP boxAV allocAV okCells_agg okCells_sl okCells_so okCells_int okCells_bool okCells_str okCells_nilp okCells_nilfn okCells_ptr okCells_fn okCells_ub loadAV loadEl storeAV storeEl partAV partAV0 fieldAV fieldAddrAV indexAddrAV indexAV lenAV sliceAV boundAV fieldAt? elemOf? kindOf look cst updO upd dstOk binAV_int binAV_str binAV_bool binAV_fn binAV_nilfn binAV_agg binAV_sl eqUb binInt binStr isShift shiftInt unAV convAV bytesAV bytesOf clearAV TD.agg RetQ resAV resAVs resAV1 F0 AV.ret AV.retL St.empty fnOf_fn gslot buildAV fillAV placesAV buildSliceAV makeSliceAV appendAV appRow_so appRow_nil listAV_sl listAV_so cutL fillE zeroElem? addRows_nil le_refl leL_refl le_agg le_tup le_int le_bool le_str le_sl leL_nil leL_cons conv0 conv_tk arg_tk res_tk fzn_tk fzn_so fzn_elo fzn_ptr res_so deep_tk tkArg_ro tkArg_fz tkArg_nil tkRes_ro tkRes_nil tkRes_fz conv_so arg_so deepc_so deepa_so at_new at_nil at_box live_at' new_len new_box put_len put_box retL_append retL_take retL_drop retL_set retL_replicate at_fzn fzn_len fzn_mo res_mo arg_mo conv_mo makeMapAV mapAV lookAV keyBits keyBits1 allBits keyOk basicD updL En.body fzn_box
attribute [local simp] encV encA encI encSl encC encSp encM encS encMo eqV10 eqV0 eqA10 eqSp10 eqOp retL_V retL_A retL_I retL_C retL_Sp retL_M retL_Sl_conv retL_Sl_arg retL_Sl_res retL_Sl_fzn retL_Sl_dc retL_Sl_da T_int T_bool T_u8 T_string T_MarkL T_Slots T_StateT T_RegionL T_Alts T_ints T_Region T_Mark T_Value T_Alt T_Slot T_Cells T_ModelT T_Cell T_seqSlot T_mapSpot T_SpotL T_Spot T_yieldSlot
/-- A crowd under way: a slot, what stands there, its row. -/
structure G3 where
  id : Int
  field : Int
  ents : List Int
  row : Nat
def encG3 (g : G3) : AV := .agg [.int .i64 2, .int .i64 g.id, .int .i64 g.field, .sl 0 0 .nil [], .so g.row 0 g.ents.length]
def crowdB (c : CellV) : Bool := decide (c.field = 2) && (decide (c.v.ref ≠ 0) && (decide (1 ≤ c.v.n) && decide (c.v.n ≤ 3)))
/-- How many crowds come before a slot. -/
def gPlace (L : List G3) (id field : Int) : Nat := (L.takeWhile fun g => aheadB g.id g.field id field).length
theorem gPlace_le (L : List G3) (id field : Int) : gPlace L id field ≤ L.length := (List.takeWhile_prefix _).length_le
theorem gPlace_lt : ∀ (s : List G3) (id field : Int) (i : Nat) (h : i < s.length), i < gPlace s id field → aheadB s[i].id s[i].field id field = true
  | [], id, field, i, h, _ => by simp at h
  | x :: s, id, field, i, h, hi => by
    unfold gPlace at hi
    rw [List.takeWhile_cons] at hi
    split at hi
    · rename_i hx
      cases i with
      | zero => simpa using hx
      | succ i => simpa using gPlace_lt s id field i (by simpa using h) (by simpa [gPlace] using hi)
    · simp at hi
theorem gPlace_at : ∀ (s : List G3) (id field : Int) (h : gPlace s id field < s.length), aheadB s[gPlace s id field].id s[gPlace s id field].field id field = false
  | [], id, field, h => by simp at h
  | x :: s, id, field, h => by
    by_cases hx : aheadB x.id x.field id field = true
    · have e : gPlace (x :: s) id field = gPlace s id field + 1 := by simp [gPlace, List.takeWhile_cons, hx]
      have h' : gPlace s id field < s.length := by rw [e] at h; simpa using h
      have := gPlace_at s id field h'
      simp only [e, List.getElem_cons_succ]
      exact this
    · have e : gPlace (x :: s) id field = 0 := by simp [gPlace, List.takeWhile_cons, hx]
      simp only [e, List.getElem_cons_zero]
      simpa using hx
/-- One more entity in a slot, in row n. -/
def addG (L : List G3) (c : CellV) (n : Nat) : List G3 :=
  match L[gPlace L c.v.ref c.v.n]? with
  | some g => if g.id = c.v.ref ∧ g.field = c.v.n then L.set (gPlace L c.v.ref c.v.n) ⟨g.id, g.field, g.ents ++ [c.id], n⟩ else L.take (gPlace L c.v.ref c.v.n) ++ ⟨c.v.ref, c.v.n, [c.id], n⟩ :: L.drop (gPlace L c.v.ref c.v.n)
  | none => L.take (gPlace L c.v.ref c.v.n) ++ ⟨c.v.ref, c.v.n, [c.id], n⟩ :: L.drop (gPlace L c.v.ref c.v.n)
/-- A crowd, without its row. -/
structure G2 where
  id : Int
  field : Int
  ents : List Int
def g2 (g : G3) : G2 := ⟨g.id, g.field, g.ents⟩
/-- One more entity in a slot, in order. -/
def addR : List G2 → CellV → List G2
  | [], c => [⟨c.v.ref, c.v.n, [c.id]⟩]
  | g :: L, c => if aheadB g.id g.field c.v.ref c.v.n = true then g :: addR L c else if g.id = c.v.ref ∧ g.field = c.v.n then ⟨g.id, g.field, g.ents ++ [c.id]⟩ :: L else ⟨c.v.ref, c.v.n, [c.id]⟩ :: g :: L
theorem addG_R : ∀ (L : List G3) (c : CellV) (n : Nat), (addG L c n).map g2 = addR (L.map g2) c
  | [], c, n => by simp [addG, addR, gPlace, g2]
  | x :: L, c, n => by
    have ih := addG_R L c n
    by_cases hx : aheadB x.id x.field c.v.ref c.v.n = true
    · have e : gPlace (x :: L) c.v.ref c.v.n = gPlace L c.v.ref c.v.n + 1 := by simp [gPlace, List.takeWhile_cons, hx]
      have e2 : addG (x :: L) c n = x :: addG L c n := by
        unfold addG
        rw [e]
        simp only [List.getElem?_cons_succ, List.set_cons_succ, List.take_succ_cons, List.drop_succ_cons, List.cons_append]
        split
        · split <;> rfl
        · rfl
      rw [e2]
      simp only [List.map_cons, addR]
      rw [if_pos (by simpa [g2] using hx), ih]
    · have e : gPlace (x :: L) c.v.ref c.v.n = 0 := by simp [gPlace, List.takeWhile_cons, hx]
      have hx' : aheadB x.id x.field c.v.ref c.v.n = false := by simpa using hx
      by_cases h2 : x.id = c.v.ref ∧ x.field = c.v.n
      · simp [addG, addR, e, hx', h2, g2, aheadB_irr]
      · simp [addG, addR, e, hx', h2, g2]
def groupsR (l : List CellV) : List G2 := (l.filter crowdB).foldl addR []
theorem groupsR_suc (l : List CellV) (i : Nat) (h : i < l.length) : groupsR (l.take (i + 1)) = if crowdB l[i] = true then addR (groupsR (l.take i)) l[i] else groupsR (l.take i) := by
  unfold groupsR
  rw [List.take_succ_eq_append_getElem h, List.filter_append, List.foldl_append]
  by_cases hc : crowdB l[i] = true
  · rw [if_pos hc]; simp [hc]
  · rw [if_neg hc]; simp [hc]
theorem addR_len : ∀ (L : List G2) (c : CellV), (addR L c).length ≤ L.length + 1
  | [], c => by simp [addR]
  | g :: L, c => by
    have := addR_len L c
    simp only [addR]
    split
    · simp; omega
    · split <;> simp
theorem addR_ents : ∀ {L : List G2} {c : CellV} {n : Nat}, (∀ g ∈ L, g.ents.length ≤ n) → ∀ g ∈ addR L c, g.ents.length ≤ n + 1
  | [], c, n, _ => by simp [addR]
  | x :: L, c, n, h => by
    have ih := addR_ents (L := L) (c := c) (n := n) fun g hg => h g (by simp [hg])
    have hx := h x (by simp)
    intro g hg
    simp only [addR] at hg
    split at hg
    · rcases List.mem_cons.1 hg with rfl | hg
      · omega
      · exact ih g hg
    · split at hg
      · rcases List.mem_cons.1 hg with rfl | hg
        · simp; omega
        · have := h g (by simp [hg]); omega
      · rcases List.mem_cons.1 hg with rfl | hg
        · simp
        · have := h g hg; omega
theorem groupsR_bound (l : List CellV) : ∀ i, i ≤ l.length → (groupsR (l.take i)).length ≤ i ∧ ∀ g ∈ groupsR (l.take i), g.ents.length ≤ i
  | 0, _ => by simp [groupsR]
  | i + 1, h => by
    obtain ⟨h1, h2⟩ := groupsR_bound l i (by omega)
    rw [groupsR_suc l i (by omega)]
    split
    · exact ⟨by have := addR_len (groupsR (l.take i)) l[i]; omega, addR_ents h2⟩
    · exact ⟨by omega, fun g hg => by have := h2 g hg; omega⟩
/-- The crowds of a model, by the document's answer. -/
def crowdsF (l : List CellV) : List RegV := ((groupsR l).filter fun g => decide (1 < g.ents.length)).map fun g => ⟨2, g.id, g.field, [], g.ents⟩
end Go.Proofs.YtmcfgljdpjalfaaV
