/- The law of the regions; its arguments, opened. -/
import Derived.Test.YtmcfgljdpjalfaaV13
import Derived.Test.YtmcfgljdpjalfaaD9
set_option linter.unusedVariables false
set_option linter.unusedSimpArgs false
set_option linter.constructorNameAsVariable false
set_option linter.unusedSectionVars false
namespace Go.Proofs.YtmcfgljdpjalfaaV
open Go.RowKit Go.Proofs
attribute [local simp ↓] run_nil run_seq run_skip run_region run_draw run_cond run_block run_exit run_ret run_b run_l run_k rexit_c rexit_l rexit_k rexit_b rops_nil rplan_nil rops_cons rops_guard rplan_cons rplan_two condR_true condR_false
attribute [local simp] planR_some planR_guard rrest_o rrest_p gS_some gR_tt gR_ff gR_ft gR_tf gR_tup valP_some valP_none valE_some valE_none valS_some opR_move opR_assign opR_pick opR_binOp opR_unOp opR_convert opR_convertl opR_extract opR_field opR_fieldAddr opR_indexAddr opR_index opR_slice opR_makeFunc opR_build opR_load opR_loadl opR_p opR_store opR_alloc opR_box opR_buildSlice opR_makeSlice opR_allocc opR_boxc opR_buildSlicec opR_makeSlicec opR_len opR_append opR_clear opR_call opR_callc opR_makeMap opR_makeMapc opR_mapEntry opR_lookup opR_lookupl opR_mapUpdate opR_insert opR_entryStore
attribute [local simp] evP boxAV allocAV okCells_agg okCells_sl okCells_so okCells_int okCells_bool okCells_str okCells_nilp okCells_nilfn okCells_ptr okCells_fn okCells_ub loadAV loadEl storeAV storeEl partAV partAV0 fieldAV fieldAddrAV indexAddrAV indexAV lenAV sliceAV boundAV fieldAt? elemOf? kindOf look cst updO upd dstOk binAV_int binAV_str binAV_bool binAV_fn binAV_nilfn binAV_agg binAV_sl eqUb binInt binStr isShift shiftInt unAV convAV bytesAV bytesOf clearAV TD.agg RetQ resAV resAVs resAV1 F0 AV.ret AV.retL St.empty fnOf_fn gslot buildAV fillAV placesAV buildSliceAV makeSliceAV appendAV appRow_so appRow_nil listAV_sl listAV_so cutL fillE zeroElem? addRows_nil le_refl leL_refl le_agg le_tup le_int le_bool le_str le_sl leL_nil leL_cons conv0 conv_tk arg_tk res_tk fzn_tk fzn_so fzn_elo fzn_ptr res_so deep_tk tkArg_ro tkArg_fz tkArg_nil tkRes_ro tkRes_nil tkRes_fz conv_so arg_so deepc_so deepa_so at_new at_nil at_box live_at' new_len new_box put_len put_box retL_append retL_take retL_drop retL_set retL_replicate at_fzn fzn_len fzn_mo res_mo arg_mo conv_mo makeMapAV mapAV lookAV keyBits keyBits1 allBits keyOk basicD updL En.body fzn_box
attribute [local simp] encV encA encI encSl encC encSp encM encS encMo eqV10 eqV0 eqA10 eqSp10 eqOp retL_V retL_A retL_I retL_C retL_Sp retL_M retL_Sl_conv retL_Sl_arg retL_Sl_res retL_Sl_fzn retL_Sl_dc retL_Sl_da retL_G_conv retL_G_arg retL_G_res retL_G_fzn retL_G_dc retL_G_da T_int T_bool T_u8 T_string T_MarkL T_Slots T_StateT T_RegionL T_Alts T_ints T_Region T_Mark T_Value T_Alt T_Slot T_Cells T_ModelT T_Cell T_seqSlot T_mapSpot T_SpotL T_Spot T_yieldSlot
theorem lawViewRegions_pure (l : List MarkV) : Pure Try.prog 3 [.sl 39 3 .ro (l.map encM)] [] (.bool true) := by
  refine Pure.of_run hmix Try.func3 (by kernel_rfl) rfl ⟨Try.ntmps3, by simp⟩ ?_
  have hg := stateF_good l
  have hr := lRegions_pure (stateF l) (by have := hg.2.2; omega) (fun x hx => by have := (hg.2.1 x hx).1; exact List.length_pos_iff.2 this) (fun x hx => by have := (hg.2.1 x hx).2; omega) hg.1
  simp
  refine callW_of (by simp) ?_
  simp
  refine (State_pure l).run true (by simp) ?_
  simp
  refine callW_of (by simp) ?_
  simp
  refine (hr).run true (by simp) ?_
  simp
  refine callW_of (by simp) ?_
  simp
  refine (awake27_pure).run true (by simp) ?_
  simp
theorem opensMark : Opens Try.prog 39 (fun m : MarkV => [.int .i64 m.id, .int .i64 m.field, .int .i64 m.stamp]) fun _ => True :=
  (opens_struct3 Try.underlying39 (opens_int Try.underlying3) (opens_int Try.underlying3) (opens_int Try.underlying3) (by decide +kernel)).map (fun a => (⟨a.1, a.2.1, a.2.2⟩ : MarkV)) _ _ (fun _ => rfl) fun _ _ => trivial
theorem opensMarkL : Opens Try.prog 22 (fun l : List MarkV => [.sl 39 3 .ro (l.map encM)]) fun _ => True :=
  (opens_slice (sz := 3) Try.underlying22 (by decide +kernel) (by decide) opensMark encM (fun w a cs h1 h2 _ => elem_agg (fun m : MarkV => [.int .i64 m.id, .int .i64 m.field, .int .i64 m.stamp]) w a cs h1 h2)).map id _ _ (fun _ => rfl) fun _ _ => trivial
end Go.Proofs.YtmcfgljdpjalfaaV
