/- Types of layer 27's rows; how values are told; numbers of a draw. -/
import Derived.Test.YtmcfgljdpjalfaaV14
import Derived.Test.YtmcfgljdpjalfaaC0
import Derived.Test.YtmcfgljdpjalfaaProg
import Derived.KernelRfl
set_option linter.unusedVariables false
set_option linter.unusedSimpArgs false
set_option linter.constructorNameAsVariable false
set_option linter.unusedSectionVars false
namespace Go.Proofs.YtmcfgljdpjalfaaV
open Go.RowKit Go.Proofs
theorem T_int : tabOf Try.prog 3 = some ⟨.int .i64, 1, 8, [.int .i64 0], true⟩ := by kernel_rfl
theorem T_bool : tabOf Try.prog 4 = some ⟨.bool, 1, 1, [.bool false], true⟩ := by kernel_rfl
theorem T_u8 : tabOf Try.prog 5 = some ⟨.int .u8, 1, 1, [.int .u8 0], true⟩ := by kernel_rfl
theorem T_string : tabOf Try.prog 9 = some ⟨.string, 1, 16, [.string ⟨#[]⟩], true⟩ := by kernel_rfl
theorem T_MarkL : tabOf Try.prog 22 = some ⟨.slice 39, 1, 24, [.slice none 0 0], true⟩ := by kernel_rfl
theorem T_Slots : tabOf Try.prog 24 = some ⟨.slice 49, 1, 24, [.slice none 0 0], true⟩ := by kernel_rfl
theorem T_StateT : tabOf Try.prog 26 = some ⟨.struct #[⟨"Slots", 24, 0, false, "", "", 0⟩], 1, 24, [.slice none 0 0], true⟩ := by kernel_rfl
theorem T_RegionL : tabOf Try.prog 30 = some ⟨.slice 36, 1, 24, [.slice none 0 0], true⟩ := by kernel_rfl
theorem T_Alts : tabOf Try.prog 33 = some ⟨.slice 45, 1, 24, [.slice none 0 0], true⟩ := by kernel_rfl
theorem T_ints : tabOf Try.prog 34 = some ⟨.slice 3, 1, 24, [.slice none 0 0], true⟩ := by kernel_rfl
theorem T_Region : tabOf Try.prog 36 = some ⟨.struct #[⟨"Kind", 3, 0, false, "", "", 0⟩, ⟨"Id", 3, 1, false, "", "", 8⟩, ⟨"Field", 3, 2, false, "", "", 16⟩, ⟨"Alts", 33, 3, false, "", "", 24⟩, ⟨"Entities", 34, 4, false, "", "", 48⟩], 5, 72, [.int .i64 0, .int .i64 0, .int .i64 0, .slice none 0 0, .slice none 0 0], true⟩ := by kernel_rfl
theorem T_Mark : tabOf Try.prog 39 = some ⟨.struct #[⟨"Id", 3, 0, false, "", "", 0⟩, ⟨"Field", 3, 1, false, "", "", 8⟩, ⟨"Stamp", 3, 2, false, "", "", 16⟩], 3, 24, [.int .i64 0, .int .i64 0, .int .i64 0], true⟩ := by kernel_rfl
theorem T_Value : tabOf Try.prog 43 = some ⟨.struct #[⟨"N", 3, 0, false, "", "", 0⟩, ⟨"Flag", 4, 1, false, "", "", 8⟩, ⟨"Text", 9, 2, false, "", "", 16⟩, ⟨"Ref", 3, 3, false, "", "", 32⟩], 4, 40, [.int .i64 0, .bool false, .string ⟨#[]⟩, .int .i64 0], true⟩ := by kernel_rfl
theorem T_Alt : tabOf Try.prog 45 = some ⟨.struct #[⟨"Stamp", 3, 0, false, "", "", 0⟩, ⟨"V", 43, 1, false, "", "", 8⟩], 5, 48, [.int .i64 0, .int .i64 0, .bool false, .string ⟨#[]⟩, .int .i64 0], true⟩ := by kernel_rfl
theorem T_Slot : tabOf Try.prog 49 = some ⟨.struct #[⟨"Id", 3, 0, false, "", "", 0⟩, ⟨"Field", 3, 1, false, "", "", 8⟩, ⟨"Alts", 33, 2, false, "", "", 16⟩], 3, 40, [.int .i64 0, .int .i64 0, .slice none 0 0], true⟩ := by kernel_rfl
theorem T_Cells : tabOf Try.prog 50 = some ⟨.slice 55, 1, 24, [.slice none 0 0], true⟩ := by kernel_rfl
theorem T_ModelT : tabOf Try.prog 52 = some ⟨.struct #[⟨"Cells", 50, 0, false, "", "", 0⟩], 1, 24, [.slice none 0 0], true⟩ := by kernel_rfl
theorem T_Cell : tabOf Try.prog 55 = some ⟨.struct #[⟨"Id", 3, 0, false, "", "", 0⟩, ⟨"Field", 3, 1, false, "", "", 8⟩, ⟨"V", 43, 2, false, "", "", 16⟩], 6, 56, [.int .i64 0, .int .i64 0, .int .i64 0, .bool false, .string ⟨#[]⟩, .int .i64 0], true⟩ := by kernel_rfl
theorem T_mapSpot : tabOf Try.prog 61 = some ⟨.map 64 34, 1, 8, [.map none], true⟩ := by kernel_rfl
theorem T_SpotL : tabOf Try.prog 62 = some ⟨.slice 64, 1, 24, [.slice none 0 0], true⟩ := by kernel_rfl
theorem T_Spot : tabOf Try.prog 64 = some ⟨.struct #[⟨"Id", 3, 0, false, "", "", 0⟩, ⟨"Field", 3, 1, false, "", "", 8⟩], 2, 16, [.int .i64 0, .int .i64 0], true⟩ := by kernel_rfl
theorem T_yieldSlot : tabOf Try.prog 73 = some ⟨.func #[49] #[4] false, 1, 8, [.nilFunc], true⟩ := by kernel_rfl
theorem T_seqSlot : tabOf Try.prog 57 = some ⟨.func #[73] #[] false, 1, 8, [.nilFunc], true⟩ := by kernel_rfl
attribute [local simp] T_int T_bool T_u8 T_string T_MarkL T_Slots T_StateT T_RegionL T_Alts T_ints T_Region T_Mark T_Value T_Alt T_Slot T_Cells T_ModelT T_Cell T_seqSlot T_mapSpot T_SpotL T_Spot T_yieldSlot
theorem hmix : Try.prog.follows .mixedOrders = true := by kernel_rfl
structure SlotV where
  id : Int
  field : Int
  alts : List AltV
structure CellV where
  id : Int
  field : Int
  v : Val
  deriving DecidableEq
structure SpotV where
  id : Int
  field : Int
  deriving DecidableEq
structure RegV where
  kind : Int
  id : Int
  field : Int
  alts : List AltV
  ents : List Int
structure MarkV where
  id : Int
  field : Int
  stamp : Int
def encV (v : Val) : AV := .agg [.int .i64 v.n, .bool v.flag, .str v.text, .int .i64 v.ref]
def encA (a : AltV) : AV := .agg [.int .i64 a.stamp, .int .i64 a.v.n, .bool a.v.flag, .str a.v.text, .int .i64 a.v.ref]
def encI (n : Int) : AV := .int .i64 n
def encSl (x : SlotV) : AV := .agg [.int .i64 x.id, .int .i64 x.field, .sl 45 5 .ro (x.alts.map encA)]
def encC (c : CellV) : AV := .agg [.int .i64 c.id, .int .i64 c.field, .int .i64 c.v.n, .bool c.v.flag, .str c.v.text, .int .i64 c.v.ref]
def encSp (p : SpotV) : AV := .agg [.int .i64 p.id, .int .i64 p.field]
def encG (r : RegV) : AV := .agg [.int .i64 r.kind, .int .i64 r.id, .int .i64 r.field, .sl 45 5 .ro (r.alts.map encA), .sl 3 1 .ro (r.ents.map encI)]
def encM (m : MarkV) : AV := .agg [.int .i64 m.id, .int .i64 m.field, .int .i64 m.stamp]
def encS (l : List SlotV) : AV := .agg [.sl 49 3 .ro (l.map encSl)]
def encMo (l : List CellV) : AV := .agg [.sl 55 6 .ro (l.map encC)]
theorem flatV : Flat encV := fun a ρ => by simp [encV, AV.ret, AV.retL]
theorem flatA : Flat encA := fun a ρ => by simp [encA, AV.ret, AV.retL]
theorem flatI : Flat encI := fun a ρ => by simp [encI, AV.ret]
theorem flatC : Flat encC := fun a ρ => by simp [encC, AV.ret, AV.retL]
theorem flatSp : Flat encSp := fun a ρ => by simp [encSp, AV.ret, AV.retL]
theorem flatM : Flat encM := fun a ρ => by simp [encM, AV.ret, AV.retL]
theorem retL_V (ρ : Ret) (l : List Val) : AV.retL ρ (l.map encV) = l.map encV := flatV.retL ρ l
theorem retL_A (ρ : Ret) (l : List AltV) : AV.retL ρ (l.map encA) = l.map encA := flatA.retL ρ l
theorem retL_I (ρ : Ret) (l : List Int) : AV.retL ρ (l.map encI) = l.map encI := flatI.retL ρ l
theorem retL_C (ρ : Ret) (l : List CellV) : AV.retL ρ (l.map encC) = l.map encC := flatC.retL ρ l
theorem retL_Sp (ρ : Ret) (l : List SpotV) : AV.retL ρ (l.map encSp) = l.map encSp := flatSp.retL ρ l
theorem retL_M (ρ : Ret) (l : List MarkV) : AV.retL ρ (l.map encM) = l.map encM := flatM.retL ρ l
theorem plainSl : Plain encSl := fun a ρ h => by simp [encSl, AV.ret, AV.retL, h, retL_A]
theorem plainG : Plain encG := fun a ρ h => by simp [encG, AV.ret, AV.retL, h, retL_A, retL_I]
theorem retL_Sl_conv (s : St) (ρ : List Nat) (l : List SlotV) : AV.retL (Ret.conv s ρ) (l.map encSl) = l.map encSl := plainSl.retL (by rfl) l
theorem retL_Sl_arg (s : St) (a : Bool) (l : List SlotV) : AV.retL (Ret.arg s a) (l.map encSl) = l.map encSl := plainSl.retL (by rfl) l
theorem retL_Sl_res (k : Nat) (l : List SlotV) : AV.retL (Ret.res true k) (l.map encSl) = l.map encSl := plainSl.retL (by rfl) l
theorem retL_Sl_fzn (n : Nat) (p : RowC) (t : Tok) (l : List SlotV) : AV.retL (Ret.fzn n p t) (l.map encSl) = l.map encSl := plainSl.retL (by rfl) l
theorem retL_Sl_dc (kp : Nat → Option Nat) (s : St) (t0 : Option Tok) (f : Nat) (l : List SlotV) : AV.retL (Ret.deep some kp s t0 f) (l.map encSl) = l.map encSl := plainSl.retL (by cases f <;> rfl) l
theorem retL_Sl_da (kp : Nat → Option Nat) (s : St) (t0 : Option Tok) (f : Nat) (l : List SlotV) : AV.retL (Ret.deep tkArg kp s t0 f) (l.map encSl) = l.map encSl := plainSl.retL (by cases f <;> rfl) l
theorem retL_G_conv (s : St) (ρ : List Nat) (l : List RegV) : AV.retL (Ret.conv s ρ) (l.map encG) = l.map encG := plainG.retL (by rfl) l
theorem retL_G_arg (s : St) (a : Bool) (l : List RegV) : AV.retL (Ret.arg s a) (l.map encG) = l.map encG := plainG.retL (by rfl) l
theorem retL_G_res (k : Nat) (l : List RegV) : AV.retL (Ret.res true k) (l.map encG) = l.map encG := plainG.retL (by rfl) l
theorem retL_G_fzn (n : Nat) (p : RowC) (t : Tok) (l : List RegV) : AV.retL (Ret.fzn n p t) (l.map encG) = l.map encG := plainG.retL (by rfl) l
theorem retL_G_dc (kp : Nat → Option Nat) (s : St) (t0 : Option Tok) (f : Nat) (l : List RegV) : AV.retL (Ret.deep some kp s t0 f) (l.map encG) = l.map encG := plainG.retL (by cases f <;> rfl) l
theorem retL_G_da (kp : Nat → Option Nat) (s : St) (t0 : Option Tok) (f : Nat) (l : List RegV) : AV.retL (Ret.deep tkArg kp s t0 f) (l.map encG) = l.map encG := plainG.retL (by cases f <;> rfl) l
attribute [local simp ↓] run_nil run_seq run_skip run_region run_draw run_cond run_block run_exit run_ret run_b run_l run_k rexit_c rexit_l rexit_k rexit_b rops_nil rplan_nil rops_cons rops_guard rplan_cons rplan_two condR_true condR_false
attribute [local simp] planR_some planR_guard rrest_o rrest_p gS_some gR_tt gR_ff gR_ft gR_tf gR_tup valP_some valP_none valE_some valE_none valS_some opR_move opR_assign opR_pick opR_binOp opR_unOp opR_convert opR_convertl opR_extract opR_field opR_fieldAddr opR_indexAddr opR_index opR_slice opR_makeFunc opR_build opR_load opR_loadl opR_p opR_store opR_alloc opR_box opR_buildSlice opR_makeSlice opR_allocc opR_boxc opR_buildSlicec opR_makeSlicec opR_len opR_append opR_clear opR_call opR_callc opR_makeMap opR_makeMapc opR_mapEntry opR_lookup opR_lookupl opR_mapUpdate opR_insert opR_entryStore
attribute [local simp] evP boxAV allocAV okCells_agg okCells_sl okCells_so okCells_int okCells_bool okCells_str okCells_nilp okCells_nilfn okCells_ptr okCells_fn okCells_ub loadAV loadEl storeAV storeEl partAV partAV0 fieldAV fieldAddrAV indexAddrAV indexAV lenAV sliceAV boundAV fieldAt? elemOf? kindOf look cst updO upd dstOk binAV_int binAV_str binAV_bool binAV_fn binAV_nilfn binAV_agg binAV_sl eqUb binInt binStr isShift shiftInt unAV convAV bytesAV bytesOf clearAV TD.agg RetQ resAV resAVs resAV1 F0 AV.ret AV.retL St.empty fnOf_fn gslot buildAV fillAV placesAV buildSliceAV makeSliceAV appendAV appRow_so appRow_nil listAV_sl listAV_so cutL fillE zeroElem? addRows_nil le_refl leL_refl le_agg le_tup le_int le_bool le_str le_sl leL_nil leL_cons conv0 conv_tk arg_tk res_tk fzn_tk fzn_so fzn_elo fzn_ptr res_so deep_tk tkArg_ro tkArg_fz tkArg_nil tkRes_ro tkRes_nil tkRes_fz conv_so arg_so deepc_so deepa_so at_new at_nil at_box live_at' new_len new_box put_len put_box retL_append retL_take retL_drop retL_set retL_replicate at_fzn fzn_len fzn_mo res_mo arg_mo conv_mo makeMapAV mapAV lookAV keyBits keyBits1 allBits keyOk basicD updL En.body fzn_box
attribute [local simp] retL_V retL_A retL_I retL_C retL_Sp retL_M retL_Sl_conv retL_Sl_arg retL_Sl_res retL_Sl_fzn retL_Sl_dc retL_Sl_da retL_G_conv retL_G_arg retL_G_res retL_G_fzn retL_G_dc retL_G_da
theorem eqV10' (n n' r r' : Int) (f f' : Bool) (t t' : ByteArray) : eqTy (tabOf Try.prog) 10 43 (.agg [.int .i64 n, .bool f, .str t, .int .i64 r]) (.agg [.int .i64 n', .bool f', .str t', .int .i64 r']) = some (n == n' && (f == f' && (t == t' && r == r'))) := by
  simp [eqTy, eqFields, eqLeaf]
theorem eqV10 (a b : Val) : eqTy (tabOf Try.prog) 10 43 (.agg [.int .i64 a.n, .bool a.flag, .str a.text, .int .i64 a.ref]) (.agg [.int .i64 b.n, .bool b.flag, .str b.text, .int .i64 b.ref]) = some (decide (a = b)) := by
  rw [eqV10']
  cases a; cases b
  congr 1
  rw [Bool.eq_iff_iff]
  simp [ba_beq]
def zeroVal : Val := ⟨0, false, ⟨#[]⟩, 0⟩
theorem eqV0 (a : Val) : eqTy (tabOf Try.prog) 10 43 (.agg [.int .i64 a.n, .bool a.flag, .str a.text, .int .i64 a.ref]) (.agg [.int .i64 0, .bool false, .str ⟨#[]⟩, .int .i64 0]) = some (decide (a = zeroVal)) := eqV10 a zeroVal
theorem eqA10 (a b : AltV) : eqTy (tabOf Try.prog) 10 45 (.agg [.int .i64 a.stamp, .int .i64 a.v.n, .bool a.v.flag, .str a.v.text, .int .i64 a.v.ref]) (.agg [.int .i64 b.stamp, .int .i64 b.v.n, .bool b.v.flag, .str b.v.text, .int .i64 b.v.ref]) = some (decide (a = b)) := by
  have : eqTy (tabOf Try.prog) 10 45 (.agg [.int .i64 a.stamp, .int .i64 a.v.n, .bool a.v.flag, .str a.v.text, .int .i64 a.v.ref]) (.agg [.int .i64 b.stamp, .int .i64 b.v.n, .bool b.v.flag, .str b.v.text, .int .i64 b.v.ref]) = some (a.stamp == b.stamp && (a.v.n == b.v.n && (a.v.flag == b.v.flag && (a.v.text == b.v.text && a.v.ref == b.v.ref)))) := by
    simp [eqTy, eqFields, eqLeaf]
  rw [this]
  refine congrArg some ?_
  clear this
  rw [Bool.eq_iff_iff]
  cases a with | mk s v => cases b with | mk s' v' => cases v; cases v'; simp [ba_beq]
theorem eqSp10 (a b : SpotV) : eqTy (tabOf Try.prog) 10 64 (.agg [.int .i64 a.id, .int .i64 a.field]) (.agg [.int .i64 b.id, .int .i64 b.field]) = some (decide (a = b)) := by
  have : eqTy (tabOf Try.prog) 10 64 (.agg [.int .i64 a.id, .int .i64 a.field]) (.agg [.int .i64 b.id, .int .i64 b.field]) = some (a.id == b.id && a.field == b.field) := by
    simp [eqTy, eqFields, eqLeaf]
  rw [this]
  refine congrArg some ?_
  clear this
  rw [Bool.eq_iff_iff]
  cases a; cases b; simp
def modE (x n : Int) : Int := if n < 1 then 0 else x % n
theorem Mod_pure (x n : Int) (hn : n < 4611686018427387904) : Pure Try.prog 27 [.int .i64 x, .int .i64 n] [] (.int .i64 (modE x n)) := by
  refine Pure.of_run hmix Try.func27 (by kernel_rfl) rfl ⟨Try.ntmps27, by simp⟩ ?_
  simp
  refine condR_mk (fun h => ?_) (fun h => ?_) <;> simp only [decide_eq_true_eq, decide_eq_false_iff_not] at h
  · simp [modE, h]
  · have hn0 : ¬ n = 0 := by omega
    simp [hn0, modE, h]
    have e1 := @Int.tmod_eq_emod x n
    have r0 := Int.emod_nonneg x hn0
    have r1 := Int.emod_lt_of_pos x (show 0 < n by omega)
    have key : ∀ y : Int, 0 ≤ y → y < 2 * n → y % n = x % n → (IntKind.i64.wrap y).tmod n = x % n := fun y h1 h2 h3 => by
      rw [wrap_in _ (by omega) (by omega), Int.tmod_eq_emod_of_nonneg h1, h3]
    refine key _ ?_ ?_ ?_
    · rw [e1]; split <;> omega
    · rw [e1]; split <;> omega
    · rw [e1]
      split
      · simp
      · have : (n.natAbs : Int) = n := by omega
        rw [this]
        simp
theorem modE_lo (x n : Int) : 0 ≤ modE x n := by
  unfold modE
  split
  · omega
  · exact Int.emod_nonneg x (by omega)
theorem modE_hi (x n : Int) (h : 0 < n) : modE x n < n := by
  unfold modE
  rw [if_neg (by omega)]
  exact Int.emod_lt_of_pos x h
/-- An id of a draw. -/
def idF (x n : Int) : Int := (1 + modE x 3) * 1048576 + 1 + modE (IntKind.i64.wrap (x.tdiv 3)) n
theorem Id_pure (x n : Int) (hn : n < 1048576) : Pure Try.prog 10 [.int .i64 x, .int .i64 n] [] (.int .i64 (idF x n)) := by
  refine Pure.of_run hmix Try.func10 (by kernel_rfl) rfl ⟨Try.ntmps10, by simp⟩ ?_
  simp
  have l1 := modE_lo x 3
  have l2 := modE_hi x 3 (by omega)
  have l3 := modE_lo (IntKind.i64.wrap (x.tdiv 3)) n
  have l4 : modE (IntKind.i64.wrap (x.tdiv 3)) n < 1048576 := by
    unfold modE
    split
    · omega
    · have := Int.emod_lt_of_pos (IntKind.i64.wrap (x.tdiv 3)) (show 0 < n by omega)
      omega
  refine callW_of (by simp) ?_
  simp
  refine (Mod_pure x 3 (by omega)).run true (by simp) ?_
  simp
  refine callW_of (by simp) ?_
  simp
  refine (Mod_pure (IntKind.i64.wrap (x.tdiv 3)) n (by omega)).run true (by simp) ?_
  simp
  have e : (2 : Int) ^ min 20 IntKind.i64.bits = 1048576 := by decide
  rw [e, wrap_in (1 + modE x 3) (by omega) (by omega), wrap_in ((1 + modE x 3) * 1048576) (by omega) (by omega), wrap_in ((1 + modE x 3) * 1048576 + 1) (by omega) (by omega), wrap_in _ (by omega) (by omega)]
  rfl
theorem idF_in (x n : Int) (h0 : 0 < n) (hn : n < 1048576) : 0 < idF x n ∧ idF x n < 8388608 := by
  have l1 := modE_lo x 3
  have l2 := modE_hi x 3 (by omega)
  have l3 := modE_lo (IntKind.i64.wrap (x.tdiv 3)) n
  have l4 := modE_hi (IntKind.i64.wrap (x.tdiv 3)) n h0
  unfold idF
  omega
/-- A field of a draw. -/
def fieldF (x : Int) : Int := if modE x 5 = 0 then 1 else if modE x 5 = 1 then 2 else if modE x 5 = 2 then 3 else if modE x 5 = 3 then 4 else 8 + modE (IntKind.i64.wrap (x.tdiv 5)) 3
theorem fieldF_in (x : Int) : 0 < fieldF x ∧ fieldF x < 12 := by
  have l1 := modE_lo (IntKind.i64.wrap (x.tdiv 5)) 3
  have l2 := modE_hi (IntKind.i64.wrap (x.tdiv 5)) 3 (by omega)
  unfold fieldF
  repeat' split
  all_goals omega
theorem fields_pure (x : Int) : Pure Try.prog 11 [.int .i64 x] [] (.int .i64 (fieldF x)) := by
  refine Pure.of_run hmix Try.func11 (by kernel_rfl) rfl ⟨Try.ntmps11, by simp⟩ ?_
  simp
  refine callW_of (by simp) ?_
  simp
  refine (Mod_pure x 5 (by omega)).run true (by simp) ?_
  simp
  refine condR_mk (fun h => ?_) (fun h => ?_) <;> simp at h <;> simp [fieldF, h]
  refine condR_mk (fun h1 => ?_) (fun h1 => ?_) <;> simp at h1 <;> simp [h, h1]
  refine condR_mk (fun h2 => ?_) (fun h2 => ?_) <;> simp at h2 <;> simp [h, h1, h2]
  refine condR_mk (fun h3 => ?_) (fun h3 => ?_) <;> simp at h3 <;> simp [h, h1, h2, h3]
  refine callW_of (by simp) ?_
  simp
  refine (Mod_pure (IntKind.i64.wrap (x.tdiv 5)) 3 (by omega)).run true (by simp) ?_
  simp
  have l1 := modE_lo (IntKind.i64.wrap (x.tdiv 5)) 3
  have l2 := modE_hi (IntKind.i64.wrap (x.tdiv 5)) 3 (by omega)
  rw [wrap_in _ (by omega) (by omega)]
def mvalF (id field stamp : Int) : Val := ⟨modE stamp 4, decide (modE (id + stamp) 3 = 0), ⟨#[]⟩, modE (field * stamp) 2 * id⟩
end Go.Proofs.YtmcfgljdpjalfaaV
