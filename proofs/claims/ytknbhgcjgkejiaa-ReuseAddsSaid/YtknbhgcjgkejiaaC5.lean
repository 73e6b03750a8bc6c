/- Contracts: the different values of alternatives, by the document's answer. -/
import Derived.Test.YtknbhgcjgkejiaaC4
set_option linter.unusedVariables false
set_option linter.unusedSimpArgs false
set_option linter.constructorNameAsVariable false
namespace Go.Proofs.YtknbhgcjgkejiaaV
open Go.RowKit Go.Proofs
attribute [local simp ↓] run_nil run_seq run_skip run_region run_draw run_cond run_block run_exit run_ret run_b run_l run_k rexit_c rexit_l rexit_k rexit_b rops_nil rplan_nil rops_cons rops_guard rplan_cons rplan_two condR_true condR_false
attribute [local simp] planR_some planR_guard rrest_o rrest_p gS_some gR_tt gR_ff gR_ft gR_tf gR_tup valP_some valP_none valE_some valE_none valS_some opR_move opR_assign opR_pick opR_binOp opR_unOp opR_convert opR_convertl opR_extract opR_field opR_fieldAddr opR_indexAddr opR_index opR_slice opR_makeFunc opR_build opR_load opR_loadl opR_p opR_store opR_alloc opR_box opR_buildSlice opR_makeSlice opR_allocc opR_boxc opR_buildSlicec opR_makeSlicec opR_len opR_append opR_clear opR_call opR_callc
attribute [local simp] evP boxAV allocAV okCells_agg okCells_sl okCells_so okCells_int okCells_bool okCells_str okCells_nilp okCells_nilfn okCells_ptr okCells_fn okCells_ub loadAV loadEl storeAV storeEl partAV partAV0 fieldAV fieldAddrAV indexAddrAV indexAV lenAV sliceAV boundAV fieldAt? elemOf? kindOf look cst updO upd dstOk binAV_int binAV_str binAV_bool binAV_fn binAV_nilfn binAV_agg binAV_sl eqUb binInt binStr isShift shiftInt unAV convAV bytesAV bytesOf clearAV TD.agg RetQ resAV resAVs resAV1 F0 AV.ret AV.retL St.empty fnOf_fn gslot buildAV fillAV placesAV buildSliceAV makeSliceAV appendAV appRow_so appRow_nil listAV_sl listAV_so cutL fillE zeroElem? addRows_nil le_refl leL_refl le_agg le_tup le_int le_bool le_str le_sl leL_nil leL_cons conv0 conv_tk arg_tk res_tk fzn_tk fzn_so fzn_elo fzn_ptr res_so deep_tk tkArg_ro tkArg_fz tkArg_nil tkRes_ro tkRes_nil tkRes_fz conv_so arg_so deepc_so deepa_so at_new at_nil at_box live_at' new_len new_box put_len put_box retL_append retL_take retL_drop retL_set retL_replicate at_fzn fzn_len
attribute [local simp] encV encR encA encI eqV10 eqOp retL_V retL_A retL_I retL_R_conv retL_R_arg retL_R_res retL_R_fzn retL_R_dc retL_R_da T_int T_bool T_u8 T_string T_Value T_fnVal T_Draws T_Records T_Alt T_Alts T_ints T_Region T_Values T_Record T_Draw T_RecordLists T_fnRec T_fnRecB T_uint T_bytes
/-- The different values, in ascending order. -/
def fromF (l : List AltV) : List Val := insAll vcmp [] (l.map (·.v))
theorem From_pure (l : List AltV) (hl : l.length < 1000000000) : Pure Try.prog 22 [.sl 36 5 .ro (l.map encA)] [] (.sl 23 4 .ro ((fromF l).map encV)) := by
  refine Pure.of_run hmix Try.func22 (by kernel_rfl) rfl ⟨Try.ntmps22, by simp⟩ ?_
  simp
  refine run_loop (fun F s => ∃ i : Nat, i ≤ l.length ∧ F 0 = .sl 36 5 .ro (l.map encA) ∧ F 4 = .int .i64 i ∧ ∃ K, F 3 = .so K 0 (insAll vcmp [] ((l.map (·.v)).take i)).length ∧ s.at K = some (23, 4, (insAll vcmp [] ((l.map (·.v)).take i)).map encV)) (fun F _ => l.length - (F 4).num)
    (.by (Weak.adopt (i := 3) (by simp; exact ⟨rfl, rfl, rfl⟩) 23 4 (by omega)) (.here ⟨0, by simp [insAll]⟩)) ?_
  rintro F s ⟨i, hi, h0, h4, K, h3, hK⟩
  obtain ⟨o, ho⟩ : ∃ o, o = insAll vcmp [] ((l.map (·.v)).take i) := ⟨_, rfl⟩
  rw [← ho] at h3 hK
  have hol : o.length ≤ i := by have := insAll_len vcmp ((l.map (·.v)).take i) []; rw [← ho] at this; simp at this; omega
  have hKl := at_lt hK
  simp [-run_block, h0, h4, h3, hK]
  refine condR_mk (fun h => ?_) (fun h => ?_) <;> simp at h <;> simp [-run_block, h0, h4, h3, hK]
  · rw [run_block]
    simp [-run_block, h0, h4, h3, hK]
    refine run_cut (fun F s1 => s = s1 ∧ F 0 = .sl 36 5 .ro (l.map encA) ∧ F 3 = .so K 0 o.length ∧ F 4 = .int .i64 i ∧ F 5 = .int .i64 (insAt vcmp l[i].v o o.length : Nat)) ?_ ?_
    · simp
      refine run_loop (fun F s1 => s = s1 ∧ F 0 = .sl 36 5 .ro (l.map encA) ∧ F 3 = .so K 0 o.length ∧ F 4 = .int .i64 i ∧ ∃ k : Nat, k ≤ o.length ∧ F 5 = .int .i64 k ∧ insAt vcmp l[i].v o k = insAt vcmp l[i].v o o.length) (fun F _ => (F 5).num) (.here (by simp [h0, h3, h4]; exact ⟨o.length, Nat.le_refl _, rfl, rfl⟩)) ?_
      rintro F s1 ⟨rfl, h0, h3, h4, k, hk, h5, hi5⟩
      simp [h0, h4, h3, h5]
      refine RDraw_mk [] (.go 0 .p (.go 1 .p (.go 2 .p (.go 3 .p (.go 4 .p (.go 5 .p (.go 6 .p (.go 8 .p (.go 9 .p (.go 10 .p (.go 11 .p (.go 7 .l (.go 12 .l (.go 13 .c (.go 14 .p (.go 15 .p .nil)))))))))))))))) (by kernel_rfl) ?_
      simp [h0, h4, h3, h5]
      refine gR_mk (fun h1 => ?_) (fun h1 => ?_) <;> simp [h1, h0, h3, h4, h5]
      · simp only [decide_eq_true_eq] at h1
        obtain ⟨j, rfl⟩ : ∃ j, k = j + 1 := ⟨k - 1, by omega⟩
        have hj : j < o.length := by omega
        have hw : IntKind.i64.wrap (j : Int) = (j : Int) := wrap_in _ (by omega) (by omega)
        simp [hw, hj, h, h0, h3, h4, h5, hK]
        refine callW_of (by simp) ?_
        simp [h0, h3, h4, h5]
        refine (rCompare_pure o[j] l[i].v).run true (by simp [h0, h3, h4, h5]) ?_
        simp [h0, h3, h4, h5]
        refine condR_mk (fun h2 => ?_) (fun h2 => ?_) <;> simp only [decide_eq_true_eq, decide_eq_false_iff_not] at h2 <;> simp [h0, h3, h4, h5, hw]
        · rw [insAt_go hj h2] at hi5
          refine .here ⟨⟨rfl, h0, h3, h4, j, by omega, rfl, hi5⟩, ?_⟩
          simp [AV.num]
        · rw [insAt_stop hj h2] at hi5
          omega
      · simp only [decide_eq_false_iff_not] at h1
        have : k = 0 := by omega
        subst this
        simp [insAt] at hi5
        omega
    · rintro F s1 ⟨rfl, h0, h3, h4, h5⟩
      obtain ⟨k, hk⟩ : ∃ k, insAt vcmp l[i].v o o.length = k := ⟨_, rfl⟩
      have hkl : k ≤ o.length := by rw [← hk]; exact insAt_le ..
      have hi1 : i < (l.map (·.v)).length := by simpa using h
      have hnx : insAll vcmp [] ((l.map (·.v)).take (i + 1)) = ins vcmp o l[i].v := by rw [insAll_snoc _ _ _ _ hi1, ← ho]; simp
      have hsame : same1 vcmp l[i].v o k = true → ins vcmp o l[i].v = o := fun h => by unfold ins; rw [hk, h]; simp
      have hnot : same1 vcmp l[i].v o k = false → ins vcmp o l[i].v = o.take k ++ l[i].v :: o.drop k := fun h => by unfold ins; rw [hk, h]; simp
      have hws := wrap_suc i (by omega)
      rw [hk] at h5
      rw [run_seq]
      refine run_cut (fun F s1 => s = s1 ∧ same1 vcmp l[i].v o k = false ∧ F 0 = .sl 36 5 .ro (l.map encA) ∧ F 3 = .so K 0 o.length ∧ F 4 = .int .i64 i ∧ F 5 = .int .i64 k) ?_ ?_
      · simp [h0, h4, h3, h5]
        refine RDraw_mk [] (.go 0 .p (.go 1 .p (.go 2 .p (.go 3 .p (.go 4 .p (.go 5 .p (.go 6 .p (.go 8 .p (.go 9 .p (.go 10 .p (.go 11 .p (.go 7 .l (.go 12 .l (.go 13 .p (.go 14 .p .nil))))))))))))))) (by kernel_rfl) ?_
        simp [h0, h4, h3, h5]
        refine gR_mk (fun h1 => ?_) (fun h1 => ?_) <;> simp [h1, h0, h3, h4, h5]
        · simp only [decide_eq_true_eq] at h1
          obtain ⟨j, rfl⟩ : ∃ j, k = j + 1 := ⟨k - 1, by omega⟩
          have hj : j < o.length := by omega
          have hw : IntKind.i64.wrap (j : Int) = (j : Int) := wrap_in _ (by omega) (by omega)
          simp [hw, hj, h, h0, h3, h4, h5, hK]
          refine condR_mk (fun h2 => ?_) (fun h2 => ?_) <;> simp at h2 <;> simp [h0, h3, h4, h5, hw, hws]
          · have e : insAll vcmp [] ((l.map (·.v)).take (i + 1)) = o := by rw [hnx, hsame (by simp [same1, hj, vcmp_zero, h2])]
            refine .here ⟨⟨i + 1, by omega, h0, rfl, K, ?_, ?_⟩, ?_⟩
            · rw [e]; simpa using h3
            · rw [e]; exact hK
            · simp [AV.num]; omega
          · simp [same1, hj, vcmp_zero, h2]
        · simp only [decide_eq_false_iff_not] at h1
          have : k = 0 := by omega
          subst this
          simp [same1]
      · rintro F s1 ⟨rfl, hs, h0, h3, h4, h5⟩
        have q0 : ¬ K = s.row.length := by omega
        simp [h0, h3, h4, h5, hK, hkl, q0]
        rw [if_pos (by omega)]
        have q1 : ¬ K = s.row.length + 1 := by omega
        have q2 : ¬ s.row.length = K := by omega
        have q3 : ¬ K = s.row.length + 2 := by omega
        have q4 : ¬ K = s.row.length + 1 + 1 := by omega
        have q5 : ¬ K = s.row.length + 1 + 1 + 1 := by omega
        simp
        refine RDraw_mk [9, 11] (.go 0 .p (.go 1 .p (.go 2 .p (.go 3 .p (.go 4 .p (.go 5 .p (.go 6 .p (.go 10 .p (.go 7 .l (.go 8 .c (.go 9 .x (.go 11 .x (.go 12 .p .nil))))))))))))) (by kernel_rfl) ?_
        have hcut : (if o.length ≤ k then List.map encV o else List.take k (List.map encV o)) = List.take k (List.map encV o) := by
          split
          · rw [List.take_of_length_le (by simpa)]
          · rfl
        simp [h, h0, h3, h4, h5, hK, hkl, q0, q1, q2, q3, q4, q5, hcut]
        rw [if_pos (by omega)]
        simp [h, h0, h3, h4, h5, hK, hkl, q0, q1, q2, q3, q4, q5, hcut]
        rw [if_pos (by omega)]
        simp [h, h0, h3, h4, h5, hK, hkl, q0, q1, q2, q3, q4, q5, hcut, hws]
        have e : insAll vcmp [] ((l.map (·.v)).take (i + 1)) = o.take k ++ l[i].v :: o.drop k := by rw [hnx, hnot hs]
        refine .here ⟨⟨i + 1, by omega, h0, rfl, s.row.length + 1 + 1 + 1 + 1, ?_, ?_⟩, ?_⟩
        · rw [e]
          simp
          omega
        · rw [e]
          simp
        · simp [AV.num]; omega
  · have : i = l.length := by omega
    subst this
    rw [List.take_of_length_le (by simp)] at ho
    simp [hK, ho, fromF]
end Go.Proofs.YtknbhgcjgkejiaaV
