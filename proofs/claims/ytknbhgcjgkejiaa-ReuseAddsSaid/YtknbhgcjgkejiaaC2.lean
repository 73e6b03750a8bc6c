/- Contracts: values, lists of values and records compared. -/
import Derived.Test.YtknbhgcjgkejiaaC1
set_option linter.unusedVariables false
set_option linter.unusedSimpArgs false
set_option linter.constructorNameAsVariable false
namespace Go.Proofs.YtknbhgcjgkejiaaV
open Go.RowKit Go.Proofs
attribute [local simp ↓] run_nil run_seq run_skip run_region run_draw run_cond run_block run_exit run_ret run_b run_l run_k rexit_c rexit_l rexit_k rexit_b rops_nil rplan_nil rops_cons rops_guard rplan_cons rplan_two condR_true condR_false
attribute [local simp] planR_some planR_guard rrest_o rrest_p gS_some gR_tt gR_ff gR_ft gR_tf gR_tup valP_some valP_none valE_some valE_none valS_some opR_move opR_assign opR_pick opR_binOp opR_unOp opR_convert opR_convertl opR_extract opR_field opR_fieldAddr opR_indexAddr opR_index opR_slice opR_makeFunc opR_build opR_load opR_loadl opR_p opR_store opR_alloc opR_box opR_buildSlice opR_makeSlice opR_allocc opR_boxc opR_buildSlicec opR_makeSlicec opR_len opR_append opR_clear opR_call opR_callc
attribute [local simp] evP boxAV allocAV okCells_agg okCells_sl okCells_so okCells_int okCells_bool okCells_str okCells_nilp okCells_nilfn okCells_ptr okCells_fn okCells_ub loadAV loadEl storeAV storeEl partAV partAV0 fieldAV fieldAddrAV indexAddrAV indexAV lenAV sliceAV boundAV fieldAt? elemOf? kindOf look cst updO upd dstOk binAV_int binAV_str binAV_bool binAV_fn binAV_nilfn binAV_agg binAV_sl eqUb binInt binStr isShift shiftInt unAV convAV bytesAV bytesOf clearAV TD.agg RetQ resAV resAVs resAV1 F0 AV.ret AV.retL St.empty fnOf_fn gslot buildAV fillAV placesAV buildSliceAV makeSliceAV appendAV appRow_so appRow_nil listAV_sl listAV_so cutL fillE zeroElem? addRows_nil le_refl leL_refl le_agg le_tup le_int le_bool le_str le_sl leL_nil leL_cons conv0 conv_tk arg_tk res_tk fzn_tk fzn_so fzn_elo fzn_ptr res_so deep_tk tkArg_ro tkArg_fz tkArg_nil tkRes_ro tkRes_nil tkRes_fz conv_so arg_so deepc_so deepa_so at_new at_nil at_box live_at' new_len new_box put_len put_box retL_append retL_take retL_drop retL_set retL_replicate at_fzn fzn_len
attribute [local simp] encV encR encA encI eqV10 eqOp retL_V retL_A retL_I retL_R_conv retL_R_arg retL_R_res retL_R_fzn retL_R_dc retL_R_da T_int T_bool T_u8 T_string T_Value T_fnVal T_Draws T_Records T_Alt T_Alts T_ints T_Region T_Values T_Record T_Draw T_RecordLists T_fnRec T_fnRecB T_uint T_bytes
theorem Compare_pure (a b : Val) : Pure Try.prog 6 [encV a, encV b] [] (.int .i64 (vcmp a b)) := by
  refine Pure.of_run hmix Try.func6 (by kernel_rfl) rfl ⟨Try.ntmps6, by simp⟩ ?_
  simp [encV]
  refine RDraw_mk [] (.go 0 .p (.go 2 .p (.go 5 .p (.go 8 .p (.go 12 .p (.go 14 .p (.go 17 .p (.go 19 .p (.go 1 .l (.go 3 .l (.go 6 .l (.go 9 .l (.go 13 .l (.go 15 .l (.go 18 .l (.go 20 .l (.go 4 .c (.go 7 .c (.go 10 .c (.go 11 .c (.go 16 .c (.go 21 .c (.go 22 .c (.go 23 .c (.go 24 .p .nil))))))))))))))))))))))))) (by kernel_rfl) ?_
  simp
  refine callW_of (by simp) ?_
  simp
  refine (cmpInt_pure a.n b.n).run true (by simp) ?_
  simp
  refine callW_of (by simp) ?_
  simp
  refine (flag_pure a.flag).run true (by simp) ?_
  simp
  refine callW_of (by simp) ?_
  simp
  refine (flag_pure b.flag).run true (by simp) ?_
  simp
  refine callW_of (by simp) ?_
  simp
  refine (cmpInt_pure (b2i a.flag) (b2i b.flag)).run true (by simp) ?_
  simp
  refine callW_of (by simp) ?_
  simp
  refine (cmpStr_pure a.text b.text).run true (by simp) ?_
  simp
  refine callW_of (by simp) ?_
  simp
  refine (cmpInt_pure a.ref b.ref).run true (by simp) ?_
  simp
  refine callW_of (by simp) ?_
  simp [encI]
  refine (Or_pure [cmpI a.n b.n, cmpI (b2i a.flag) (b2i b.flag), cmpS a.text b.text, cmpI a.ref b.ref] (by simp)).run false (by simp [encI]) ?_
  simp [encI]
  rfl
theorem lcmp_drop {a b : List Val} {i : Nat} (ha : i < a.length) (hb : i < b.length) : lcmp (a.drop i) (b.drop i) = if vcmp a[i] b[i] = 0 then lcmp (a.drop (i + 1)) (b.drop (i + 1)) else vcmp a[i] b[i] := by
  rw [List.drop_eq_getElem_cons ha, List.drop_eq_getElem_cons hb]
  rfl
theorem CompareFunc_pure (a b : List Val) (ha : a.length < 4611686018427387904) : Pure Try.prog 37 [.sl 23 4 .ro (a.map encV), .sl 23 4 .ro (b.map encV), .fn 6 []] [] (.int .i64 (lcmp a b)) := by
  refine Pure.of_run hmix Try.func37 (by kernel_rfl) rfl ⟨Try.ntmps37, by simp⟩ ?_
  simp
  refine run_loop (fun F _ => ∃ i : Nat, i ≤ a.length ∧ i ≤ b.length ∧ F 0 = .sl 23 4 .ro (a.map encV) ∧ F 1 = .sl 23 4 .ro (b.map encV) ∧ F 2 = .fn 6 [] ∧ F 11 = .sl 23 4 .ro (a.map encV) ∧ F 12 = .int .i64 a.length ∧ F 13 = .int .i64 i ∧ lcmp (a.drop i) (b.drop i) = lcmp a b) (fun F _ => a.length - (F 13).num) (.here ⟨0, by simp⟩) ?_
  rintro F s ⟨i, hi, hib, h0, h1, h2, h11, h12, h13, ho⟩
  simp [h0, h1, h2, h11, h12, h13]
  refine condR_mk (fun h => ?_) (fun h => ?_) <;> simp at h <;> simp [h0, h1, h2, h11, h12, h13]
  · simp [h, h0, h1, h2, h11, h12, h13]
    refine condR_mk (fun hb => ?_) (fun hb => ?_) <;> simp at hb <;> simp [h0, h1, h2, h11, h12, h13]
    · have : i = b.length := by omega
      subst this
      rw [List.drop_length, List.drop_eq_getElem_cons h] at ho
      exact ho
    · rw [lcmp_drop h hb] at ho
      simp [h, hb, h0, h1, h2, h11, h12, h13]
      refine callW_of (by simp) ?_
      simp [h0, h1, h2, h11, h12, h13]
      refine (Compare_pure a[i] b[i]).run true (by simp [h0, h1, h2, h11, h12, h13]) ?_
      simp [h0, h1, h2, h11, h12, h13]
      refine condR_mk (fun hc => ?_) (fun hc => ?_) <;> simp at hc <;> simp [h0, h1, h2, h11, h12, h13]
      · simpa [hc] using ho
      · have hw := wrap_suc i (by omega)
        simp [h13, hw]
        refine .here ⟨⟨i + 1, by omega, by omega, h0, h1, h2, h11, h12, rfl, ?_⟩, ?_⟩
        · simpa [hc] using ho
        · simp [AV.num]; omega
  · have : i = a.length := by omega
    subst this
    refine condR_mk (fun hb => ?_) (fun hb => ?_) <;> simp at hb <;> simp
    · rw [List.drop_length, List.drop_eq_getElem_cons hb] at ho
      exact ho
    · rw [List.drop_length, List.drop_of_length_le (by omega)] at ho
      simpa [lcmp] using ho
theorem recCmp_pure (a b : Rec) (ha : a.src.length < 4611686018427387904) : Pure Try.prog 25 [encR a, encR b] [] (.int .i64 (rcmp a b)) := by
  refine Pure.of_run hmix Try.func25 (by kernel_rfl) rfl ⟨Try.ntmps25, by simp⟩ ?_
  simp
  refine RDraw_mk [] (.go 0 .p (.go 2 .p (.go 5 .p (.go 7 .p (.go 10 .p (.go 12 .p (.go 15 .p (.go 17 .p (.go 1 .l (.go 3 .l (.go 6 .l (.go 8 .l (.go 11 .l (.go 13 .l (.go 16 .l (.go 18 .l (.go 4 .c (.go 9 .c (.go 14 .c (.go 19 .c (.go 20 .c (.go 21 .c (.go 22 .p .nil))))))))))))))))))))))) (by kernel_rfl) ?_
  simp
  refine callW_of (by simp) ?_
  simp
  refine (cmpInt_pure a.id b.id).run true (by simp) ?_
  simp
  refine callW_of (by simp) ?_
  simp
  refine (cmpInt_pure a.field b.field).run true (by simp) ?_
  simp
  refine callW_of (by simp) ?_
  simp
  refine (CompareFunc_pure a.src b.src ha).run true (by simp) ?_
  simp
  refine callW_of (by simp) ?_
  simp
  refine (Compare_pure a.to b.to).run true (by simp) ?_
  simp
  refine callW_of (by simp) ?_
  simp
  refine (Or_pure [cmpI a.id b.id, cmpI a.field b.field, lcmp a.src b.src, vcmp a.to b.to] (by simp)).run false (by simp) ?_
  simp
  rfl
theorem AddC_pure (a b : Rec) (ha : a.src.length < 4611686018427387904) : Pure Try.prog 27 [encR a, encR b] [] (.bool (decide (rcmp a b = 0))) := by
  refine Pure.of_run hmix Try.func27 (by kernel_rfl) rfl ⟨Try.ntmps27, by simp⟩ ?_
  simp
  refine callW_of (by simp) ?_
  simp
  refine (recCmp_pure a b ha).run true (by simp) ?_
  simp
  rw [Bool.eq_iff_iff]
  simp
theorem rCompare_pure (a b : Val) : Pure Try.prog 7 [encV a, encV b] [] (.int .i64 (vcmp a b)) := by
  refine Pure.of_run hmix Try.func7 (by kernel_rfl) rfl ⟨Try.ntmps7, by simp⟩ ?_
  simp
  have hz := vcmp_zero a b
  refine condR_mk (fun h0 => ?_) (fun h0 => ?_) <;> simp at h0 <;> simp
  · exact (hz.2 h0).symm
  · repeat' (first | (refine condR_mk (fun h => ?_) (fun h => ?_) <;> simp [h]) | (refine gR_mk (fun h => ?_) (fun h => ?_) <;> simp [h]))
    all_goals
      clear hz
      have ht := ba_toList a.text b.text
      obtain ⟨n, f, t, r⟩ := a
      obtain ⟨n', f', t', r'⟩ := b
      simp only [Val.mk.injEq, vcmp, orI, cmpI, cmpS, b2i] at *
      grind
end Go.Proofs.YtknbhgcjgkejiaaV
