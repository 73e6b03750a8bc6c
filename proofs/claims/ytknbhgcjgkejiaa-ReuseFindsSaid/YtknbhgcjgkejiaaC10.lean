/- Contracts: the records of a draw. -/
import Derived.Test.YtknbhgcjgkejiaaC9
set_option linter.unusedVariables false
set_option linter.unusedSimpArgs false
set_option linter.constructorNameAsVariable false
namespace Go.Proofs.YtknbhgcjgkejiaaV
open Go.RowKit Go.Proofs
/-- A record's draw. -/
structure DrawV where
  id : Int
  a : Int
  b : Int
  to : Int
def encD (d : DrawV) : AV := .agg [.int .i64 d.id, .int .i64 d.a, .int .i64 d.b, .int .i64 d.to]
theorem flatD : Flat encD := fun a ρ => by simp [encD, AV.ret, AV.retL]
theorem retL_D (ρ : Ret) (l : List DrawV) : AV.retL ρ (l.map encD) = l.map encD := flatD.retL ρ l
attribute [local simp ↓] run_nil run_seq run_skip run_region run_draw run_cond run_block run_exit run_ret run_b run_l run_k rexit_c rexit_l rexit_k rexit_b rops_nil rplan_nil rops_cons rops_guard rplan_cons rplan_two condR_true condR_false
attribute [local simp] planR_some planR_guard rrest_o rrest_p gS_some gR_tt gR_ff gR_ft gR_tf gR_tup valP_some valP_none valE_some valE_none valS_some opR_move opR_assign opR_pick opR_binOp opR_unOp opR_convert opR_convertl opR_extract opR_field opR_fieldAddr opR_indexAddr opR_index opR_slice opR_makeFunc opR_build opR_load opR_loadl opR_p opR_store opR_alloc opR_box opR_buildSlice opR_makeSlice opR_allocc opR_boxc opR_buildSlicec opR_makeSlicec opR_len opR_append opR_clear opR_call opR_callc
attribute [local simp] evP boxAV allocAV okCells_agg okCells_sl okCells_so okCells_int okCells_bool okCells_str okCells_nilp okCells_nilfn okCells_ptr okCells_fn okCells_ub loadAV loadEl storeAV storeEl partAV partAV0 fieldAV fieldAddrAV indexAddrAV indexAV lenAV sliceAV boundAV fieldAt? elemOf? kindOf look cst updO upd dstOk binAV_int binAV_str binAV_bool binAV_fn binAV_nilfn binAV_agg binAV_sl eqUb binInt binStr isShift shiftInt unAV convAV bytesAV bytesOf clearAV TD.agg RetQ resAV resAVs resAV1 F0 AV.ret AV.retL St.empty fnOf_fn gslot buildAV fillAV placesAV buildSliceAV makeSliceAV appendAV appRow_so appRow_nil listAV_sl listAV_so cutL fillE zeroElem? addRows_nil le_refl leL_refl le_agg le_tup le_int le_bool le_str le_sl leL_nil leL_cons conv0 conv_tk arg_tk res_tk fzn_tk fzn_so fzn_elo fzn_ptr res_so deep_tk tkArg_ro tkArg_fz tkArg_nil tkRes_ro tkRes_nil tkRes_fz conv_so arg_so deepc_so deepa_so at_new at_nil at_box live_at' new_len new_box put_len put_box retL_append retL_take retL_drop retL_set retL_replicate at_fzn fzn_len
attribute [local simp] encV encR encA encI encD eqV10 eqOp retL_V retL_A retL_I retL_D retL_R_conv retL_R_arg retL_R_res retL_R_fzn retL_R_dc retL_R_da T_int T_bool T_u8 T_string T_Value T_fnVal T_Draws T_Records T_Alt T_Alts T_ints T_Region T_Values T_Record T_Draw T_RecordLists T_fnRec T_fnRecB T_uint T_bytes
def alts3 (d : DrawV) : List AltV := [⟨0, valF d.a⟩, ⟨0, valF d.b⟩, ⟨0, valF (IntKind.i64.wrap (d.a + d.b))⟩]
def recF (d : DrawV) : Rec := ⟨idF d.id 1, 3, fromF ((alts3 d).take (2 + modE d.id 2).toNat), valF d.to⟩
def recsI (l : List DrawV) (i : Nat) : List Rec := (l.take i).map recF
theorem records_pure (l : List DrawV) : Pure Try.prog 9 [.sl 51 4 .ro (l.map encD)] [] (.sl 43 7 .ro ((recsI l 20).map encR)) := by
  refine Pure.of_run hmix Try.func9 (by kernel_rfl) rfl ⟨Try.ntmps9, by simp⟩ ?_
  simp
  refine run_loop (fun F s => ∃ i : Nat, i ≤ l.length ∧ i ≤ 20 ∧ F 0 = .sl 51 4 .ro (l.map encD) ∧ F 4 = .int .i64 i ∧ ∃ K, F 3 = .so K 0 i ∧ s.at K = some (43, 7, (recsI l i).map encR)) (fun F _ => l.length - (F 4).num)
    (.by (Weak.adopt (i := 3) (by simp; exact ⟨rfl, rfl, rfl⟩) 43 7 (by omega)) (.here ⟨0, by simp [recsI]⟩)) ?_
  rintro F s ⟨i, hi, hi20, h0, h4, K, h3, hK⟩
  have hKl := at_lt hK
  obtain ⟨o, ho⟩ : ∃ o, o = recsI l i := ⟨_, rfl⟩
  have hol : o.length = i := by rw [ho]; simp [recsI]; omega
  rw [← ho] at hK
  simp [h0, h4, h3]
  refine gR_mk (fun h => ?_) (fun h => ?_) <;> simp only [decide_eq_true_eq, decide_eq_false_iff_not] at h <;> simp [h, h0, h4, h3]
  · refine condR_mk (fun g => ?_) (fun g => ?_) <;> simp only [decide_eq_true_eq, decide_eq_false_iff_not] at g <;> simp [h0, h4, h3]
    · have h' : i < l.length := by omega
      refine RDraw_mk [] (.go 0 .p (.go 1 .p (.go 2 .p (.go 3 .p (.go 7 .p (.go 8 .p (.go 9 .p (.go 10 .p (.go 14 .p (.go 15 .p (.go 16 .p (.go 17 .p (.go 19 .p (.go 20 .p (.go 21 .p (.go 22 .p (.go 4 .l (.go 11 .l (.go 18 .l (.go 23 .l (.go 24 .p (.go 5 .c (.go 6 .p (.go 12 .c (.go 13 .p (.go 25 .c (.go 26 .p (.go 27 .c (.go 28 .p .nil))))))))))))))))))))))))))))) (by kernel_rfl) ?_
      simp [h', h0, h4, h3]
      refine callW_of (by simp) ?_
      simp [h', h0, h4, h3]
      refine (value_pure l[i].a).run true (by simp [h', h0, h4, h3]) ?_
      simp [h', h0, h4, h3]
      refine callW_of (by simp) ?_
      simp [h', h0, h4, h3]
      refine (value_pure l[i].b).run true (by simp [h', h0, h4, h3]) ?_
      simp [h', h0, h4, h3]
      refine callW_of (by simp) ?_
      simp [h', h0, h4, h3]
      refine (value_pure (IntKind.i64.wrap (l[i].a + l[i].b))).run true (by simp [h', h0, h4, h3]) ?_
      simp [h', h0, h4, h3]
      refine RDraw_mk [25] (.go 0 .p (.go 1 .p (.go 2 .p (.go 3 .p (.go 4 .p (.go 7 .p (.go 8 .p (.go 9 .p (.go 10 .p (.go 11 .p (.go 17 .p (.go 18 .p (.go 19 .p (.go 20 .p (.go 5 .l (.go 12 .l (.go 21 .l (.go 6 .c (.go 13 .c (.go 14 .p (.go 15 .p (.go 16 .c (.go 22 .c (.go 23 .p (.go 24 .c (.go 25 .x (.go 26 .p .nil))))))))))))))))))))))))))) (by kernel_rfl) ?_
      simp [h', h0, h4, h3]
      refine callW_of (by simp) ?_
      simp [h', h0, h4, h3]
      refine (Id_pure l[i].id 1 (by omega)).run true (by simp [h', h0, h4, h3]) ?_
      simp [h', h0, h4, h3]
      refine callW_of (by simp) ?_
      simp [h', h0, h4, h3]
      refine (Mod_pure l[i].id 2 (by omega)).run true (by simp [h', h0, h4, h3]) ?_
      simp [h', h0, h4, h3]
      obtain ⟨m, hm, hm3, hm2⟩ : ∃ m : Nat, 2 + modE l[i].id 2 = (m : Int) ∧ m ≤ 3 ∧ 2 ≤ m := by
        have := modE_lo l[i].id 2
        have := modE_hi l[i].id 2 (by omega)
        exact ⟨(2 + modE l[i].id 2).toNat, by omega, by omega, by omega⟩
      have hwm : IntKind.i64.wrap (2 + modE l[i].id 2) = (m : Int) := by rw [hm]; exact wrap_nat m (by omega)
      have hmn : (2 + modE l[i].id 2).toNat = m := by omega
      simp [hwm, hm3, h', h0, h4, h3]
      refine callW_by (Weak.freeze (at_last s none _) .ro (.inl rfl)) ?_
      have q0 : ¬ K = s.row.length := by omega
      have q1 : ¬ s.row.length = K := by omega
      refine callW_of (by simp) ?_
      simp [hwm, hm3, h', h0, h4, h3, q0, q1]
      refine (From_pure ((alts3 l[i]).take m) (by simp [alts3]; omega)).run true (by
        rcases (show m = 2 ∨ m = 3 by omega) with h | h <;> rw [h] <;> simp [alts3]) ?_
      have hws := wrap_suc i (by omega)
      simp [hwm, hm3, h', h0, h4, h3, q0, q1, hK]
      refine callW_of (by simp) ?_
      simp [hwm, hm3, h', h0, h4, h3, q0, q1, hK]
      refine (value_pure l[i].to).run true (by simp [hwm, hm3, h', h0, h4, h3, q0, q1, hK]) ?_
      simp [hwm, hm3, h', h0, h4, h3, q0, q1, hK]
      have q2 : ¬ K = s.row.length + 1 := by omega
      have q3 : ¬ s.row.length + 1 = K := by omega
      simp [hwm, hm3, h', h0, h4, h3, q0, q1, q2, q3, hK, hol]
      rw [if_pos (by omega)]
      simp [hwm, hm3, h', h0, h4, h3, q0, q1, q2, q3, hK, hol, hws]
      have e : recsI l (i + 1) = o ++ [recF l[i]] := by
        unfold recsI
        rw [List.take_succ_eq_append_getElem h', ho, List.map_append]
        rfl
      refine .here ⟨⟨i + 1, by omega, by omega, by simp [h0], by simp, s.row.length + 1 + 1, by simp, ?_⟩, ?_⟩
      · rw [e]; simp [recF, hmn]
      · simp [AV.num]; omega
    · have : i = 20 := by omega
      subst this
      rw [ho] at hK
      rw [ho] at hol
      simp [h3, hK, hol]
  · have hil : i = l.length := by omega
    have e : recsI l 20 = o := by
      rw [ho]
      unfold recsI
      rw [List.take_of_length_le (by omega), List.take_of_length_le (by omega)]
    simp [hK, hol, e]
end Go.Proofs.YtknbhgcjgkejiaaV
