/- Contracts: the sanity check. -/
import Derived.Test.YtknbhgcjgkejiaaC11
set_option linter.unusedVariables false
set_option linter.unusedSimpArgs false
set_option linter.constructorNameAsVariable false
namespace Go.Proofs.YtknbhgcjgkejiaaV
open Go.RowKit Go.Proofs
attribute [local simp ↓] run_nil run_seq run_skip run_region run_draw run_cond run_block run_exit run_ret run_b run_l run_k rexit_c rexit_l rexit_k rexit_b rops_nil rplan_nil rops_cons rops_guard rplan_cons rplan_two condR_true condR_false
attribute [local simp] planR_some planR_guard rrest_o rrest_p gS_some gR_tt gR_ff gR_ft gR_tf gR_tup valP_some valP_none valE_some valE_none valS_some opR_move opR_assign opR_pick opR_binOp opR_unOp opR_convert opR_convertl opR_extract opR_field opR_fieldAddr opR_indexAddr opR_index opR_slice opR_makeFunc opR_build opR_load opR_loadl opR_p opR_store opR_alloc opR_box opR_buildSlice opR_makeSlice opR_allocc opR_boxc opR_buildSlicec opR_makeSlicec opR_len opR_append opR_clear opR_call opR_callc
attribute [local simp] evP boxAV allocAV okCells_agg okCells_sl okCells_so okCells_int okCells_bool okCells_str okCells_nilp okCells_nilfn okCells_ptr okCells_fn okCells_ub loadAV loadEl storeAV storeEl partAV partAV0 fieldAV fieldAddrAV indexAddrAV indexAV lenAV sliceAV boundAV fieldAt? elemOf? kindOf look cst updO upd dstOk binAV_int binAV_str binAV_bool binAV_fn binAV_nilfn binAV_agg binAV_sl eqUb binInt binStr isShift shiftInt unAV convAV bytesAV bytesOf clearAV TD.agg RetQ resAV resAVs resAV1 F0 AV.ret AV.retL St.empty fnOf_fn gslot buildAV fillAV placesAV buildSliceAV makeSliceAV appendAV appRow_so appRow_nil listAV_sl listAV_so cutL fillE zeroElem? addRows_nil le_refl leL_refl le_agg le_tup le_int le_bool le_str le_sl leL_nil leL_cons conv0 conv_tk arg_tk res_tk fzn_tk fzn_so fzn_elo fzn_ptr res_so deep_tk tkArg_ro tkArg_fz tkArg_nil tkRes_ro tkRes_nil tkRes_fz conv_so arg_so deepc_so deepa_so at_new at_nil at_box live_at' new_len new_box put_len put_box retL_append retL_take retL_drop retL_set retL_replicate at_fzn fzn_len
attribute [local simp] encV encR encA encI encD encG eqV10 eqOp retL_V retL_A retL_I retL_D retL_R_conv retL_R_arg retL_R_res retL_R_fzn retL_R_dc retL_R_da T_int T_bool T_u8 T_string T_Value T_fnVal T_Draws T_Records T_Alt T_Alts T_ints T_Region T_Values T_Record T_Draw T_RecordLists T_fnRec T_fnRecB T_uint T_bytes
def vg : Val := ⟨0, false, ⟨#[103]⟩, 0⟩
def vh : Val := ⟨0, false, ⟨#[104]⟩, 0⟩
def rg : Rec := ⟨1048577, 3, [vg, vh], vg⟩
def rh : Rec := ⟨1048577, 3, [vg, vh], vh⟩
def xg : Reg := ⟨1, 1048577, 3, [⟨1048581, vh⟩, ⟨1048582, vg⟩], []⟩
theorem tl_one (b : UInt8) : (ByteArray.mk #[b]).toList = [b] := ByteArray.toList_mk [b]
theorem v_gh : vcmp vg vh = -1 := by
  have h : Op.bytesLess [103] [104] = true := by decide
  simp [vcmp, orI, cmpI, cmpS, b2i, vg, vh, tl_one, h]
theorem v_hg : vcmp vh vg = 1 := by rw [pre_vcmp.sw vg vh, v_gh]; rfl
theorem v_gg : vcmp vg vg = 0 := pre_vcmp.same _
theorem v_hh : vcmp vh vh = 0 := pre_vcmp.same _
theorem f_xg : fromF xg.alts = [vg, vh] := by
  simp [fromF, xg, insAll, ins, insAt, same1, v_gh, v_hg]
theorem find1 : findF [rg] xg = (vg, true) := by
  simp [findF, findGo, hit, f_xg, rg]
  simp [xg]
theorem find2 : findF [rg, rh] xg = (zeroVal, false) := by
  have : ¬ vg = vh := by intro h; have := (vcmp_zero vg vh).2 h; rw [v_gh] at this; cases this
  simp [findF, findGo, hit, f_xg, rg, rh, this]
  simp [xg]
theorem add2 : (insAll rcmp [] ([rg] ++ [rh, rg])).length = 2 := by
  have l0 : lcmp [vg, vh] [vg, vh] = 0 := pre_lcmp.same _
  have h1 : rcmp rg rh = -1 := by simp [rcmp, orI, cmpI, rg, rh, l0, v_gh]
  have h2 : rcmp rh rg = 1 := by rw [pre_rcmp.sw rg rh, h1]; rfl
  have h3 : rcmp rg rg = 0 := pre_rcmp.same _
  simp [insAll, ins, insAt, same1, h1, h2, h3]
theorem awake_pure : Pure Try.prog 8 [] [] (.bool true) := by
  refine Pure.of_run hmix Try.func8 (by kernel_rfl) rfl ⟨Try.ntmps8, by simp⟩ ?_
  have o1 : ∀ x ∈ [rg], okR x := by simp [okR, rg]
  have o2 : ∀ x ∈ [rg, rh], okR x := by simp [okR, rg, rh]
  have o3 : ∀ x ∈ [rh, rg], okR x := by simp [okR, rg, rh]
  have F1 := Find_pure [rg] xg (by simp) o1 (by simp [xg])
  have F2 := Find_pure [rg, rh] xg (by simp) o2 (by simp [xg])
  have C1 := Compare_pure vg vh
  have C2 := Compare_pure vh vg
  have A1 := Add_fz [rg] [rh, rg] (by simp) o1 o3
  have A2 := add2
  rw [find1] at F1
  rw [find2] at F2
  rw [v_gh] at C1
  rw [v_hg] at C2
  obtain ⟨al, hal⟩ : ∃ al, insAll rcmp [] ([rg] ++ [rh, rg]) = al := ⟨_, rfl⟩
  rw [hal] at A1 A2
  have hne : ¬ (0 : Int) = 1 := by decide
  have e1 := eqV10 vg vg
  simp
  refine callW_of (by simp) ?_
  simp [rg, vg, vh, xg]
  refine (F1).run false (by simp [rg, vg, vh, xg]) ?_
  simp [rg, vg, vh, xg]
  refine callW_of (by simp) ?_
  simp [rg, rh, vg, vh, xg, zeroVal, eqV10', ba_beq]
  refine (F2).run false (by simp [rg, rh, vg, vh, xg, zeroVal, eqV10', ba_beq]) ?_
  simp [rg, rh, vg, vh, xg, zeroVal, eqV10', ba_beq]
  refine callW_of (by simp) ?_
  simp [vg, vh]
  refine (C1).run true (by simp [vg, vh]) ?_
  simp [vg, vh]
  refine callW_of (by simp) ?_
  simp [vg, vh]
  refine (C2).run true (by simp [vg, vh]) ?_
  simp [vg, vh]
  refine callW_of (by simp) ?_
  simp [rg, rh, vg, vh, A2]
  refine (A1).run false (by simp [rg, rh, vg, vh, A2]) ?_
  simp [rg, rh, vg, vh, A2]
  simp [retL_length, A2]
end Go.Proofs.YtknbhgcjgkejiaaV
