/- Types; contracts of the comparing functions. -/
import Derived.Test.YtknbhgcjgkejiaaV12
import Derived.Test.YtknbhgcjgkejiaaC0
import Derived.Test.YtknbhgcjgkejiaaProg
import Derived.KernelRfl
set_option linter.unusedVariables false
set_option linter.unusedSimpArgs false
set_option linter.constructorNameAsVariable false
namespace Go.Proofs.YtknbhgcjgkejiaaV
open Go.RowKit Go.Proofs
theorem T_int : tabOf Try.prog 3 = some ⟨.int .i64, 1, 8, [.int .i64 0], true⟩ := by kernel_rfl
theorem T_bool : tabOf Try.prog 4 = some ⟨.bool, 1, 1, [.bool false], true⟩ := by kernel_rfl
theorem T_u8 : tabOf Try.prog 5 = some ⟨.int .u8, 1, 1, [.int .u8 0], true⟩ := by kernel_rfl
theorem T_string : tabOf Try.prog 9 = some ⟨.string, 1, 16, [.string ⟨#[]⟩], true⟩ := by kernel_rfl
theorem T_Value : tabOf Try.prog 23 = some ⟨.struct #[⟨"N", 3, 0, false, "", "", 0⟩, ⟨"Flag", 4, 1, false, "", "", 8⟩, ⟨"Text", 9, 2, false, "", "", 16⟩, ⟨"Ref", 3, 3, false, "", "", 32⟩], 4, 40, [.int .i64 0, .bool false, .string ⟨#[]⟩, .int .i64 0], true⟩ := by kernel_rfl
theorem T_fnVal : tabOf Try.prog 24 = some ⟨.func #[23, 23] #[3] false, 1, 8, [.nilFunc], true⟩ := by kernel_rfl
theorem T_Draws : tabOf Try.prog 27 = some ⟨.slice 51, 1, 24, [.slice none 0 0], true⟩ := by kernel_rfl
theorem T_Records : tabOf Try.prog 28 = some ⟨.slice 43, 1, 24, [.slice none 0 0], true⟩ := by kernel_rfl
theorem T_Alt : tabOf Try.prog 36 = some ⟨.struct #[⟨"Stamp", 3, 0, false, "", "", 0⟩, ⟨"V", 23, 1, false, "", "", 8⟩], 5, 48, [.int .i64 0, .int .i64 0, .bool false, .string ⟨#[]⟩, .int .i64 0], true⟩ := by kernel_rfl
theorem T_Alts : tabOf Try.prog 37 = some ⟨.slice 36, 1, 24, [.slice none 0 0], true⟩ := by kernel_rfl
theorem T_ints : tabOf Try.prog 38 = some ⟨.slice 3, 1, 24, [.slice none 0 0], true⟩ := by kernel_rfl
theorem T_Region : tabOf Try.prog 40 = some ⟨.struct #[⟨"Kind", 3, 0, false, "", "", 0⟩, ⟨"Id", 3, 1, false, "", "", 8⟩, ⟨"Field", 3, 2, false, "", "", 16⟩, ⟨"Alts", 37, 3, false, "", "", 24⟩, ⟨"Entities", 38, 4, false, "", "", 48⟩], 5, 72, [.int .i64 0, .int .i64 0, .int .i64 0, .slice none 0 0, .slice none 0 0], true⟩ := by kernel_rfl
theorem T_Values : tabOf Try.prog 41 = some ⟨.slice 23, 1, 24, [.slice none 0 0], true⟩ := by kernel_rfl
theorem T_Record : tabOf Try.prog 43 = some ⟨.struct #[⟨"Id", 3, 0, false, "", "", 0⟩, ⟨"Field", 3, 1, false, "", "", 8⟩, ⟨"From", 41, 2, false, "", "", 16⟩, ⟨"To", 23, 3, false, "", "", 40⟩], 7, 80, [.int .i64 0, .int .i64 0, .slice none 0 0, .int .i64 0, .bool false, .string ⟨#[]⟩, .int .i64 0], true⟩ := by kernel_rfl
theorem T_Draw : tabOf Try.prog 51 = some ⟨.struct #[⟨"Id", 3, 0, false, "", "", 0⟩, ⟨"A", 3, 1, false, "", "", 8⟩, ⟨"B", 3, 2, false, "", "", 16⟩, ⟨"To", 3, 3, false, "", "", 24⟩], 4, 32, [.int .i64 0, .int .i64 0, .int .i64 0, .int .i64 0], true⟩ := by kernel_rfl
theorem T_RecordLists : tabOf Try.prog 53 = some ⟨.slice 28, 1, 24, [.slice none 0 0], true⟩ := by kernel_rfl
theorem T_fnRec : tabOf Try.prog 56 = some ⟨.func #[43, 43] #[3] false, 1, 8, [.nilFunc], true⟩ := by kernel_rfl
theorem T_fnRecB : tabOf Try.prog 58 = some ⟨.func #[43, 43] #[4] false, 1, 8, [.nilFunc], true⟩ := by kernel_rfl
theorem T_uint : tabOf Try.prog 60 = some ⟨.int .u64, 1, 8, [.int .u64 0], true⟩ := by kernel_rfl
theorem T_bytes : tabOf Try.prog 61 = some ⟨.slice 5, 1, 24, [.slice none 0 0], true⟩ := by kernel_rfl
attribute [local simp] T_int T_bool T_u8 T_string T_Value T_fnVal T_Draws T_Records T_Alt T_Alts T_ints T_Region T_Values T_Record T_Draw T_RecordLists T_fnRec T_fnRecB T_uint T_bytes
theorem hmix : Try.prog.follows .mixedOrders = true := by kernel_rfl
def cellsV (v : Val) : List AV := [.int .i64 v.n, .bool v.flag, .str v.text, .int .i64 v.ref]
def encV (v : Val) : AV := .agg [.int .i64 v.n, .bool v.flag, .str v.text, .int .i64 v.ref]
def encR (r : Rec) : AV := .agg [.int .i64 r.id, .int .i64 r.field, .sl 23 4 .ro (r.src.map encV), .int .i64 r.to.n, .bool r.to.flag, .str r.to.text, .int .i64 r.to.ref]
def encA (a : AltV) : AV := .agg [.int .i64 a.stamp, .int .i64 a.v.n, .bool a.v.flag, .str a.v.text, .int .i64 a.v.ref]
def encI (n : Int) : AV := .int .i64 n
theorem flatV : Flat encV := fun a ρ => by simp [encV, AV.ret, AV.retL]
theorem flatA : Flat encA := fun a ρ => by simp [encA, AV.ret, AV.retL]
theorem flatI : Flat encI := fun a ρ => by simp [encI, AV.ret]
theorem retL_V (ρ : Ret) (l : List Val) : AV.retL ρ (l.map encV) = l.map encV := flatV.retL ρ l
theorem retL_A (ρ : Ret) (l : List AltV) : AV.retL ρ (l.map encA) = l.map encA := flatA.retL ρ l
theorem retL_I (ρ : Ret) (l : List Int) : AV.retL ρ (l.map encI) = l.map encI := flatI.retL ρ l
theorem plainR : Plain encR := fun a ρ h => by simp [encR, AV.ret, AV.retL, h, retL_V]
theorem retL_R_conv (s : St) (ρ : List Nat) (l : List Rec) : AV.retL (Ret.conv s ρ) (l.map encR) = l.map encR := plainR.retL (by rfl) l
theorem retL_R_arg (s : St) (a : Bool) (l : List Rec) : AV.retL (Ret.arg s a) (l.map encR) = l.map encR := plainR.retL (by rfl) l
theorem retL_R_res (k : Nat) (l : List Rec) : AV.retL (Ret.res true k) (l.map encR) = l.map encR := plainR.retL (by rfl) l
theorem retL_R_fzn (n : Nat) (p : RowC) (t : Tok) (l : List Rec) : AV.retL (Ret.fzn n p t) (l.map encR) = l.map encR := plainR.retL (by rfl) l
theorem retL_R_dc (kp : Nat → Option Nat) (s : St) (t0 : Option Tok) (f : Nat) (l : List Rec) : AV.retL (Ret.deep some kp s t0 f) (l.map encR) = l.map encR := plainR.retL (by cases f <;> rfl) l
theorem retL_R_da (kp : Nat → Option Nat) (s : St) (t0 : Option Tok) (f : Nat) (l : List Rec) : AV.retL (Ret.deep tkArg kp s t0 f) (l.map encR) = l.map encR := plainR.retL (by cases f <;> rfl) l
attribute [local simp ↓] run_nil run_seq run_skip run_region run_draw run_cond run_block run_exit run_ret run_b run_l run_k rexit_c rexit_l rexit_k rexit_b rops_nil rplan_nil rops_cons rops_guard rplan_cons rplan_two condR_true condR_false
attribute [local simp] planR_some planR_guard rrest_o rrest_p gS_some gR_tt gR_ff gR_ft gR_tf gR_tup valP_some valP_none valE_some valE_none valS_some opR_move opR_assign opR_pick opR_binOp opR_unOp opR_convert opR_convertl opR_extract opR_field opR_fieldAddr opR_indexAddr opR_index opR_slice opR_makeFunc opR_build opR_load opR_loadl opR_p opR_store opR_alloc opR_box opR_buildSlice opR_makeSlice opR_allocc opR_boxc opR_buildSlicec opR_makeSlicec opR_len opR_append opR_clear opR_call opR_callc
attribute [local simp] evP boxAV allocAV okCells_agg okCells_sl okCells_so okCells_int okCells_bool okCells_str okCells_nilp okCells_nilfn okCells_ptr okCells_fn okCells_ub loadAV loadEl storeAV storeEl partAV partAV0 fieldAV fieldAddrAV indexAddrAV indexAV lenAV sliceAV boundAV fieldAt? elemOf? kindOf look cst updO upd dstOk binAV_int binAV_str binAV_bool binAV_fn binAV_nilfn binAV_agg binAV_sl eqUb binInt binStr isShift shiftInt unAV convAV bytesAV bytesOf clearAV TD.agg RetQ resAV resAVs resAV1 F0 AV.ret AV.retL St.empty fnOf_fn gslot buildAV fillAV placesAV buildSliceAV makeSliceAV appendAV appRow_so appRow_nil listAV_sl listAV_so cutL fillE zeroElem? addRows_nil le_refl leL_refl le_agg le_tup le_int le_bool le_str le_sl leL_nil leL_cons conv0 conv_tk arg_tk res_tk fzn_tk fzn_so fzn_elo fzn_ptr res_so deep_tk tkArg_ro tkArg_fz tkArg_nil tkRes_ro tkRes_nil tkRes_fz conv_so arg_so deepc_so deepa_so at_new at_nil at_box live_at' new_len new_box put_len put_box retL_append retL_take retL_drop retL_set retL_replicate at_fzn fzn_len
attribute [local simp] retL_V retL_A retL_I retL_R_conv retL_R_arg retL_R_res retL_R_fzn retL_R_dc retL_R_da
theorem eqV10' (n n' r r' : Int) (f f' : Bool) (t t' : ByteArray) : eqTy (tabOf Try.prog) 10 23 (.agg [.int .i64 n, .bool f, .str t, .int .i64 r]) (.agg [.int .i64 n', .bool f', .str t', .int .i64 r']) = some (n == n' && (f == f' && (t == t' && r == r'))) := by
  simp [eqTy, eqFields, eqLeaf]
theorem eqV10 (a b : Val) : eqTy (tabOf Try.prog) 10 23 (.agg [.int .i64 a.n, .bool a.flag, .str a.text, .int .i64 a.ref]) (.agg [.int .i64 b.n, .bool b.flag, .str b.text, .int .i64 b.ref]) = some (decide (a = b)) := by
  rw [eqV10']
  cases a; cases b
  congr 1
  rw [Bool.eq_iff_iff]
  simp [ba_beq]
theorem isNaNInt_pure (a : Int) : Pure Try.prog 33 [.int .i64 a] [] (.bool false) := by
  refine Pure.of_run hmix Try.func33 (by kernel_rfl) rfl ⟨Try.ntmps33, by simp⟩ ?_
  simp
theorem isNaNStr_pure (a : ByteArray) : Pure Try.prog 34 [.str a] [] (.bool false) := by
  refine Pure.of_run hmix Try.func34 (by kernel_rfl) rfl ⟨Try.ntmps34, by simp⟩ ?_
  simp
theorem cmpInt_pure (a b : Int) : Pure Try.prog 19 [.int .i64 a, .int .i64 b] [] (.int .i64 (cmpI a b)) := by
  refine Pure.of_run hmix Try.func19 (by kernel_rfl) rfl ⟨Try.ntmps19, by simp⟩ ?_
  simp
  refine callW_of (by simp) ?_
  simp
  refine (isNaNInt_pure a).run true (by simp) ?_
  simp
  refine callW_of (by simp) ?_
  simp
  refine (isNaNInt_pure b).run true (by simp) ?_
  simp
  refine condR_mk (fun h => ?_) (fun h => ?_) <;> simp at h <;> simp [cmpI, h]
  refine condR_mk (fun h1 => ?_) (fun h1 => ?_) <;> simp at h1 <;> simp [cmpI, h, h1] <;> omega
theorem cmpStr_pure (a b : ByteArray) : Pure Try.prog 21 [.str a, .str b] [] (.int .i64 (cmpS a b)) := by
  refine Pure.of_run hmix Try.func21 (by kernel_rfl) rfl ⟨Try.ntmps21, by simp⟩ ?_
  simp
  refine callW_of (by simp) ?_
  simp
  refine (isNaNStr_pure a).run true (by simp) ?_
  simp
  refine callW_of (by simp) ?_
  simp
  refine (isNaNStr_pure b).run true (by simp) ?_
  simp
  refine condR_mk (fun h => ?_) (fun h => ?_) <;> simp [cmpS, h]
  refine condR_mk (fun h1 => ?_) (fun h1 => ?_) <;> simp [h] at h1 <;> simp [h1]
theorem flag_pure (b : Bool) : Pure Try.prog 20 [.bool b] [] (.int .i64 (b2i b)) := by
  refine Pure.of_run hmix Try.func20 (by kernel_rfl) rfl ⟨Try.ntmps20, by simp⟩ ?_
  simp
  refine condR_mk (fun h => ?_) (fun h => ?_) <;> simp [b2i, h]
theorem Or_pure (l : List Int) (hl : l.length < 4611686018427387904) : Pure Try.prog 18 [.sl 3 1 .ro (l.map encI)] [] (.int .i64 (orI l)) := by
  refine Pure.of_run hmix Try.func18 (by kernel_rfl) rfl ⟨Try.ntmps18, by simp⟩ ?_
  simp
  refine run_loop (fun F _ => ∃ i : Nat, i ≤ l.length ∧ F 3 = .int .i64 0 ∧ F 6 = .sl 3 1 .ro (l.map encI) ∧ F 7 = .int .i64 l.length ∧ F 8 = .int .i64 i ∧ orI (l.drop i) = orI l) (fun F _ => l.length - (F 8).num) (.here ⟨0, by simp⟩) ?_
  rintro F s ⟨i, hi, h3, h6, h7, h8, ho⟩
  simp [h3, h6, h7, h8]
  refine condR_mk (fun h => ?_) (fun h => ?_) <;> simp at h <;> simp [h3, h6, h7, h8]
  · simp [h, encI, h3, h6, h7, h8]
    rw [List.drop_eq_getElem_cons h] at ho
    refine condR_mk (fun h1 => ?_) (fun h1 => ?_) <;> simp at h1 <;> simp [h3, h6, h7, h8]
    · simpa [orI, h1] using ho
    · have hw := wrap_suc i (by omega)
      simp [h8, hw]
      refine .here ⟨⟨i + 1, by omega, h3, h6, h7, rfl, ?_⟩, ?_⟩
      · simpa [orI, h1] using ho
      · simp [AV.num]; omega
  · have : i = l.length := by omega
    subst this
    simpa [orI] using ho
end Go.Proofs.YtknbhgcjgkejiaaV
