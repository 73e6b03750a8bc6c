/- Contracts: the comparison of regions, the sanity check. -/
import Derived.Test.YtmcfgljdpjalfaaD8
set_option linter.unusedVariables false
set_option linter.unusedSimpArgs false
set_option linter.constructorNameAsVariable false
set_option linter.unusedSectionVars false
namespace Go.Proofs.YtmcfgljdpjalfaaV
open Go.RowKit Go.Proofs
attribute [local simp ↓] run_nil run_seq run_skip run_region run_draw run_cond run_block run_exit run_ret run_b run_l run_k rexit_c rexit_l rexit_k rexit_b rops_nil rplan_nil rops_cons rops_guard rplan_cons rplan_two condR_true condR_false
attribute [local simp] planR_some planR_guard rrest_o rrest_p gS_some gR_tt gR_ff gR_ft gR_tf gR_tup valP_some valP_none valE_some valE_none valS_some opR_move opR_assign opR_pick opR_binOp opR_unOp opR_convert opR_convertl opR_extract opR_field opR_fieldAddr opR_indexAddr opR_index opR_slice opR_makeFunc opR_build opR_load opR_loadl opR_p opR_store opR_alloc opR_box opR_buildSlice opR_makeSlice opR_allocc opR_boxc opR_buildSlicec opR_makeSlicec opR_len opR_append opR_clear opR_call opR_callc opR_makeMap opR_makeMapc opR_mapEntry opR_lookup opR_lookupl opR_mapUpdate opR_insert opR_entryStore
attribute [local simp] evP boxAV allocAV okCells_agg okCells_sl okCells_so okCells_int okCells_bool okCells_str okCells_nilp okCells_nilfn okCells_ptr okCells_fn okCells_ub loadAV loadEl storeAV storeEl partAV partAV0 fieldAV fieldAddrAV indexAddrAV indexAV lenAV sliceAV boundAV fieldAt? elemOf? kindOf look cst updO upd dstOk binAV_int binAV_str binAV_bool binAV_fn binAV_nilfn binAV_agg binAV_sl eqUb binInt binStr isShift shiftInt unAV convAV bytesAV bytesOf clearAV TD.agg RetQ resAV resAVs resAV1 F0 AV.ret AV.retL St.empty fnOf_fn gslot buildAV fillAV placesAV buildSliceAV makeSliceAV appendAV appRow_so appRow_nil listAV_sl listAV_so cutL fillE zeroElem? addRows_nil le_refl leL_refl le_agg le_tup le_int le_bool le_str le_sl leL_nil leL_cons conv0 conv_tk arg_tk res_tk fzn_tk fzn_so fzn_elo fzn_ptr res_so deep_tk tkArg_ro tkArg_fz tkArg_nil tkRes_ro tkRes_nil tkRes_fz conv_so arg_so deepc_so deepa_so at_new at_nil at_box live_at' new_len new_box put_len put_box retL_append retL_take retL_drop retL_set retL_replicate at_fzn fzn_len fzn_mo res_mo arg_mo conv_mo makeMapAV mapAV lookAV keyBits keyBits1 allBits keyOk basicD updL En.body fzn_box
attribute [local simp] encV encA encI encSl encC encSp encM encS encMo eqV10 eqV0 eqA10 eqSp10 eqOp retL_V retL_A retL_I retL_C retL_Sp retL_M retL_Sl_conv retL_Sl_arg retL_Sl_res retL_Sl_fzn retL_Sl_dc retL_Sl_da retL_G_conv retL_G_arg retL_G_res retL_G_fzn retL_G_dc retL_G_da T_int T_bool T_u8 T_string T_MarkL T_Slots T_StateT T_RegionL T_Alts T_ints T_Region T_Mark T_Value T_Alt T_Slot T_Cells T_ModelT T_Cell T_seqSlot T_mapSpot T_SpotL T_Spot T_yieldSlot
def okReg (r : RegV) : Prop := r.alts.length < 1000000000 ∧ r.ents.length < 1000000000
theorem sameRegion_pure (a : RegV) (h : okReg a) : Pure Try.prog 9 [encG a, encG a] [] (.bool true) := by
  refine Pure.of_run hmix Try.func9 (by kernel_rfl) rfl ⟨Try.ntmps9, by simp⟩ ?_
  simp [encG]
  refine callW_of (by simp) ?_
  simp
  refine (SameAlts_pure a.alts a.alts h.1).run true (by simp) ?_
  simp
  refine callW_of (by simp) ?_
  simp
  refine (sameInts_pure a.ents a.ents h.2).run true (by simp) ?_
  simp
def LRI (l : List RegV) (i : Nat) (F : Fr) : Prop :=
  i ≤ l.length ∧ F 3 = .sl 36 5 .fz (l.map encG) ∧ F 4 = .sl 36 5 .fz (l.map encG) ∧ F 5 = .int .i64 i
theorem lRegions_pure (s0 : List SlotV) (hl : s0.length < 1000000) (hne : ∀ x ∈ s0, 0 < x.alts.length) (hal : ∀ x ∈ s0, x.alts.length < 1000000000) (hso : SortedS s0) : Pure Try.prog 4 [encS s0] [] (.bool true) := by
  refine Pure.of_run hmix Try.func4 (by kernel_rfl) rfl ⟨Try.ntmps4, by simp⟩ ?_
  simp [-run_seq]
  rw [run_seq]
  simp [-run_seq]
  rw [run_seq]
  simp
  refine RDraw_mk [] (.go 0 .l (.go 2 .l (.go 1 .c (.go 3 .c (.go 4 .p (.go 5 .p .nil)))))) (by kernel_rfl) ?_
  simp
  have hv := vRegions_pure s0 hl hal hso
  have hr := rRegions_pure s0 (by omega) hne hal
  obtain ⟨l, hll⟩ : ∃ l, l = valsF s0 ++ crowdsF (modelF s0) := ⟨_, rfl⟩
  rw [← hll] at hv hr
  have hok : ∀ r ∈ l, okReg r := fun r hr => by
    rw [hll] at hr
    rcases List.mem_append.1 hr with h | h
    · unfold valsF at h
      obtain ⟨x, hx, rfl⟩ := List.mem_map.1 h
      exact ⟨hal x (List.mem_filter.1 hx).1, by simp⟩
    · unfold crowdsF at h
      obtain ⟨g, hg, rfl⟩ := List.mem_map.1 h
      have hb := groupsR_bound (modelF s0) _ (Nat.le_refl _)
      rw [List.take_length] at hb
      have := hb.2 g (List.mem_filter.1 hg).1
      have hml := modelF_len s0
      exact ⟨by simp, by simp; omega⟩
  have hlen : l.length < 10000000 := by
    have h1 := valsF_len s0
    have h2 := crowdsF_len (modelF s0)
    have h3 := modelF_len s0
    rw [hll, List.length_append]; omega
  refine callW_of (by simp) ?_
  simp
  refine (hv).run true (by simp) ?_
  simp
  refine callW_of (by simp) ?_
  simp
  refine (hr).run true (by simp) ?_
  simp
  refine run_loop (fun F _ => ∃ i, LRI l i F) (fun F _ => l.length - (F 5).num) (.here ⟨0, by omega, by simp, by simp, by simp⟩) ?_
  rintro F s ⟨i, hi, h3, h4, h5⟩
  simp [h3, h4, h5]
  refine condR_mk (fun h => ?_) (fun h => ?_) <;> simp at h <;> simp [h3, h4, h5]
  have hw := wrap_suc i (by omega)
  refine RDraw_mk [] (.go 0 .p (.go 1 .p (.go 2 .p (.go 4 .p (.go 5 .p (.go 6 .p (.go 3 .l (.go 7 .l (.go 8 .c (.go 9 .p .nil)))))))))) (by kernel_rfl) ?_
  simp [h, h3, h4, h5, encG]
  refine callW_of (by simp) ?_
  simp [h, h3, h4, h5, encG, hw]
  refine (sameRegion_pure l[i] (hok _ (List.getElem_mem h))).run true (by simp [h, h3, h4, h5, encG, hw]) ?_
  simp [h, h3, h4, h5, encG, hw]
  refine .here ⟨⟨i + 1, by omega, by simp [h3], by simp [h4], by simp⟩, ?_⟩
  simp [AV.num]; omega
/-- The state of the sanity check. -/
def awS : List SlotV := [⟨1048577, 3, [⟨1048582, ⟨0, false, ⟨#[102]⟩, 0⟩⟩, ⟨1048583, ⟨0, false, ⟨#[103]⟩, 0⟩⟩]⟩, ⟨1048578, 2, [⟨1048582, ⟨2, false, ⟨#[]⟩, 1048577⟩⟩]⟩, ⟨1048579, 2, [⟨1048583, ⟨2, false, ⟨#[]⟩, 1048577⟩⟩]⟩]
theorem awS_val : valsF awS ++ crowdsF (modelF awS) = [⟨1, 1048577, 3, [⟨1048582, ⟨0, false, ⟨#[102]⟩, 0⟩⟩, ⟨1048583, ⟨0, false, ⟨#[103]⟩, 0⟩⟩], []⟩, ⟨2, 1048577, 2, [], [1048578, 1048579]⟩] := by kernel_rfl
theorem awS_mod : modelF awS = [⟨1048577, 3, ⟨0, false, ⟨#[102]⟩, 0⟩⟩, ⟨1048578, 2, ⟨2, false, ⟨#[]⟩, 1048577⟩⟩, ⟨1048579, 2, ⟨2, false, ⟨#[]⟩, 1048577⟩⟩] := by kernel_rfl
theorem awake27_pure : Pure Try.prog 6 [] [] (.bool true) := by
  refine Pure.of_run hmix Try.func6 (by kernel_rfl) rfl ⟨Try.ntmps6, by simp⟩ ?_
  have hv := vRegions_pure awS (by decide) (by simp [awS]) (by simp [awS, SortedS, aheadB])
  have hm := vModel_pure awS (by decide)
  rw [awS_val] at hv
  rw [awS_mod] at hm
  simp [awS, encG] at hv hm
  have w1 : IntKind.i64.wrap 1048578 = 1048578 := by decide
  have w2 : IntKind.i64.wrap 1048579 = 1048579 := by decide
  have w3 : IntKind.i64.wrap 1048582 = 1048582 := by decide
  have w4 : IntKind.i64.wrap 1048583 = 1048583 := by decide
  simp [w1, w2, w3, w4]
  refine callW_of (by simp) ?_
  simp
  refine (hv).run false (by simp) ?_
  simp
  refine callW_of (by simp) ?_
  simp
  refine (hm).run false (by simp) ?_
  simp
  done
end Go.Proofs.YtmcfgljdpjalfaaV
