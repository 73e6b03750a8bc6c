/- Contracts of the loops over cells. -/
import Derived.Test.YtfodigfliiemeaaB1
namespace Go.Proofs.YtfodigfliiemeaaA
open Go.RowKit Go.Proofs
attribute [local simp ↓] run_nil run_seq run_skip run_region run_draw run_cond run_block run_exit run_ret run_b run_l rexit_c rexit_l rexit_b rops_nil rplan_nil rops_cons rops_guard rplan_cons condR_true condR_false
attribute [local simp] planR_some planR_guard rrest_o rrest_p gS_some gR_tt gR_ff gR_ft gR_tf gR_tup valP_some valP_none valE_some valE_none valS_some opR_move opR_assign opR_pick opR_binOp opR_unOp opR_convert opR_extract opR_field opR_fieldAddr opR_indexAddr opR_index opR_slice opR_makeFunc opR_build opR_load opR_loadl opR_p opR_store opR_alloc opR_box opR_buildSlice opR_makeSlice opR_allocc opR_boxc opR_buildSlicec opR_makeSlicec opR_len opR_append opR_call opR_callc
attribute [local simp] evP boxAV allocAV okCells_agg okCells_sl okCells_int okCells_bool okCells_str okCells_nilp okCells_nilfn okCells_ptr okCells_fn loadAV storeAV partAV partAV0 fieldAV fieldAddrAV indexAddrAV indexAV lenAV sliceAV boundAV fieldAt? elemOf? kindOf look cst updO upd dstOk binAV_int binAV_str binAV_bool binAV_fn binAV_nilfn binAV_agg binInt binStr isShift shiftInt unAV convAV TD.agg RetQ resAV resAVs resAV1 F0 conv_int conv_bool conv_str AV.allT AV.ret AV.allTL AV.retL St.empty fnOf_fn gslot buildAV fillAV placesAV buildSliceAV makeSliceAV fillE zeroElem? Tok.cut Tok.frz Tok.ok Tok.okR Tok.ren Tok.noRo Tok.shift addToks_zero live_last' new_box Tok.fixed le_refl leL_refl le_agg le_tup le_int le_bool le_str le_nil leL_nil leL_cons
attribute [local simp] T3 T4 T9 T22 T34 T36 T46 eqV10 eqC10 eqOp zeroV_eq cell_eq allTL_cells retL_cells
theorem writes_pure (l : List Cell) (hl : l.length < 1000000) : Pure Try.prog 16 [slC .ro l] 0 (.bool (wrB l)) := by
  refine Pure.of_run hmix Try.func16 (by kernel_rfl) rfl ⟨Try.ntmps16, by simp⟩ ?_
  simp
  refine run_loop (fun F s => ∃ i : Nat, i ≤ l.length ∧ F 0 = slC .ro l ∧ F 5 = slC .ro l ∧ F 6 = .int .i64 l.length ∧ F 7 = .int .i64 i ∧ wrTo l i = true) (fun F _ => l.length - (F 7).num) ⟨0, by simp, by simp, by simp, by simp, by simp, rfl⟩ ?_
  rintro F s ⟨i, hi, h0, h5, h6, h7, hw⟩
  simp [h5, h6, h7]
  refine condR_mk (fun h => ?_) (fun h => ?_)
  · simp only [decide_eq_true_eq] at h
    obtain ⟨c, hc⟩ : ∃ c, l[i] = c := ⟨_, rfl⟩
    simp [h5, h6, h7, h, hc, encCell]
    refine RDraw_mk [] [(0, .p), (1, .l), (2, .c), (3, .p), (4, .p), (5, .p), (6, .l), (7, .p), (8, .p), (9, .p), (10, .p), (11, .l), (12, .p), (13, .p), (14, .p), (15, .p), (16, .p), (17, .p), (18, .p), (19, .p), (20, .p), (21, .p), (22, .l), (23, .l), (24, .c), (25, .p), (26, .p), (27, .p)] (by kernel_rfl) ?_
    simp
    refine (validId_pure c.id).run rfl (by simp) (by simp) (by simp) ?_
    simp
    refine gR_mk (fun h1 => ?_) (fun h1 => ?_) <;> simp [h1]
    · refine wrTo_false (k := i) ?_ h
      simp at h1
      simp [okAt, h, hc, h1]
    · refine gR_mk (fun h2 => ?_) (fun h2 => ?_) <;> simp [h1, h2]
      · refine wrTo_false (k := i) ?_ h
        simp at h2
        simp [okAt, h, hc]
        omega
      · refine gR_mk (fun h3 => ?_) (fun h3 => ?_) <;> simp [h1, h2, h3]
        · refine wrTo_false (k := i) ?_ h
          simp at h3
          simp [okAt, h, hc]
          omega
        · refine gR_mk (fun h4 => ?_) (fun h4 => ?_) <;> simp [h1, h2, h3, h4]
          · simp only [decide_eq_true_eq] at h4
            obtain ⟨j, rfl⟩ : ∃ j, i = j + 1 := ⟨i - 1, by omega⟩
            have hj : IntKind.i64.wrap (j : Int) = (j : Int) := wrap_in _ (by omega) (by omega)
            have h9 : j < l.length := by omega
            obtain ⟨p, hp⟩ : ∃ p, l[j] = p := ⟨_, rfl⟩
            simp [h0, hj, h9, hp, encCell]
            refine (order_pure p c).run rfl (by simp [encCell]) (by simp [encCell]) (by simp) ?_
            simp
            refine condR_mk (fun h5 => ?_) (fun h5 => ?_)
            · simp
              refine wrTo_false (k := j + 1) ?_ h
              simp at h5
              simp [okAt, h, hc, h9, hp]
              omega
            · have hj2 : IntKind.i64.wrap ((j : Int) + 1 + 1) = ((j + 2 : Nat) : Int) := wrap_in _ (by omega) (by omega)
              simp [h7, hj2]
              refine ⟨⟨j + 2, by omega, h0, by assumption, h6, by omega, ?_⟩, ?_⟩
              · rw [wrTo_succ, hw]
                simp at h1 h2 h3 h5
                simp [okAt, h, hc, h1, h9, hp]
                omega
              · simp [AV.num]
                omega
          · have hi2 : IntKind.i64.wrap ((i : Int) + 1) = ((i + 1 : Nat) : Int) := wrap_in _ (by omega) (by omega)
            simp [h7, hi2]
            refine ⟨⟨i + 1, by omega, h0, h5, h6, by simp, ?_⟩, ?_⟩
            · rw [wrTo_succ, hw]
              simp at h1 h2 h3 h4
              subst h4
              simp [okAt, h, hc, h1]
              omega
            · simp [AV.num]
              omega
  · simp at h
    have : i = l.length := by omega
    subst this
    simpa [wrB] using hw
theorem valid_pure (l : List Cell) (hl : l.length < 1000000) : Pure Try.prog 15 [slC .ro l] 0 (.bool (valB l)) := by
  refine Pure.of_run hmix Try.func15 (by kernel_rfl) rfl ⟨Try.ntmps15, by simp⟩ ?_
  simp
  refine run_loop (fun F s => ∃ i : Nat, i ≤ l.length ∧ F 0 = slC .ro l ∧ F 5 = slC .ro l ∧ F 6 = .int .i64 l.length ∧ F 7 = .int .i64 i ∧ solid (l.take i) = true) (fun F _ => l.length - (F 7).num) ⟨0, by simp, by simp, by simp, by simp, by simp, rfl⟩ ?_
  rintro F s ⟨i, hi, h0, h5, h6, h7, hw⟩
  simp [h5, h6, h7]
  refine condR_mk (fun h => ?_) (fun h => ?_)
  · simp only [decide_eq_true_eq] at h
    obtain ⟨c, hc⟩ : ∃ c, l[i] = c := ⟨_, rfl⟩
    simp [h5, h6, h7, h, hc, encCell]
    refine condR_mk (fun h1 => ?_) (fun h1 => ?_)
    · simp
      refine Bool.and_eq_false_iff.2 (.inl ?_)
      rw [solid, List.all_eq_false]
      exact ⟨c, hc ▸ List.getElem_mem h, by simp [h1]⟩
    · simp [h7, wrap_suc i (by omega)]
      refine ⟨⟨i + 1, by omega, h0, h5, h6, by simp, ?_⟩, ?_⟩
      · simp only [solid, List.take_add_one, List.getElem?_eq_getElem h, List.all_append] at hw ⊢
        simp [hw, hc, h1]
      · simp [AV.num]
        omega
  · simp at h
    have : i = l.length := by omega
    subst this
    simp [h0]
    refine (writes_pure l hl).run rfl (by simp) (by simp) (by simp) ?_
    simp at hw
    simp [valB, hw]
theorem same_pure (a b : List Cell) (ha : a.length < 1000000) : Pure Try.prog 10 [slC .ro a, slC .ro b] 0 (.bool (decide (a = b))) := by
  refine Pure.of_run hmix Try.func10 (by kernel_rfl) rfl ⟨Try.ntmps10, by simp⟩ ?_
  simp
  refine condR_mk (fun h => ?_) (fun h => ?_)
  · simp
    intro e
    simp [e] at h
  simp at h
  simp
  refine run_loop (fun F s => ∃ i : Nat, i ≤ a.length ∧ F 0 = slC .ro a ∧ F 1 = slC .ro b ∧ F 5 = .int .i64 i ∧ a.take i = b.take i) (fun F _ => a.length - (F 5).num) ⟨0, by simp, by simp, by simp, by simp, rfl⟩ ?_
  rintro F s ⟨i, hi, h0, h1, h5, hw⟩
  simp [h0, h1, h5]
  refine condR_mk (fun h => ?_) (fun h => ?_)
  · simp only [decide_eq_true_eq] at h
    obtain ⟨c, hc⟩ : ∃ c, a[i] = c := ⟨_, rfl⟩
    have h' : i < b.length := by omega
    obtain ⟨d, hd⟩ : ∃ d, b[i] = d := ⟨_, rfl⟩
    simp
    refine RDraw_mk [] [(0, .p), (1, .p), (2, .p), (4, .p), (5, .p), (6, .p), (3, .l), (7, .l), (8, .p)] (by kernel_rfl) ?_
    simp [h0, h1, h5, h, h', hc, hd, encCell]
    refine condR_mk (fun h2 => ?_) (fun h2 => ?_)
    · simp at h2
      simp
      rintro rfl
      exact h2 (hc.symm.trans hd)
    · simp at h2
      simp [h0, h1, h5, wrap_suc i (by omega)]
      refine ⟨⟨i + 1, by omega, by simp, ?_⟩, ?_⟩
      · rw [List.take_add_one, List.take_add_one, hw, List.getElem?_eq_getElem h, List.getElem?_eq_getElem h', hc, hd, h2]
      · simp [AV.num]
        omega
  · simp at h
    have : i = a.length := by omega
    subst this
    have e : b.length = a.length := by omega
    simp [h0, h1, h5]
    rw [List.take_length, ← e, List.take_length] at hw
    exact hw
theorem wr24_pure (l : List Cell) (c : Cell) (hl : l.length < 1000000) : Pure Try.prog 28 [slC .ro l, encCell c] 0 (.bool (wr24 l c)) := by
  refine Pure.of_run hmix Try.func28 (by kernel_rfl) rfl ⟨Try.ntmps28, by simp⟩ ?_
  simp [encCell]
  refine run_loop (fun F s => ∃ i : Nat, i ≤ l.length ∧ F 0 = slC .ro l ∧ F 3 = .ptr 0 0 ∧ F 5 = .int .i64 i ∧ s.box = [(36, [.int .i64 c.id, .int .i64 c.field, .int .i64 c.n, .bool c.flag, .str c.text, .int .i64 c.ref])] ∧ wr24 (l.take i) c = false) (fun F _ => l.length - (F 5).num) ⟨0, by simp, by simp, by simp, by simp, by simp, rfl⟩ ?_
  rintro F s ⟨i, hi, h0, h3, h5, hb, hw⟩
  simp [h0, h5]
  refine condR_mk (fun h => ?_) (fun h => ?_)
  · simp only [decide_eq_true_eq] at h
    obtain ⟨d, hd⟩ : ∃ d, l[i] = d := ⟨_, rfl⟩
    simp
    refine RDraw_mk [] [(0, .p), (1, .p), (2, .p), (3, .l), (4, .l), (5, .c)] (by kernel_rfl) ?_
    simp [h0, h3, h5, h, hd, hb, encCell]
    refine (register_pure d c).run rfl (by simp) (by simp [encCell]) (by simp) ?_
    simp
    refine condR_mk (fun h2 => ?_) (fun h2 => ?_)
    · simp
      rw [wr24, List.any_eq_true]
      exact ⟨d, hd ▸ List.getElem_mem h, h2⟩
    · simp [h0, h3, h5, wrap_suc i (by omega)]
      refine ⟨⟨i + 1, by omega, by simp, hb, ?_⟩, ?_⟩
      · simp only [wr24, List.take_add_one, List.getElem?_eq_getElem h, List.any_append] at hw ⊢
        simp [hw, hd, h2]
      · simp [AV.num]
        omega
  · simp at h
    have : i = l.length := by omega
    subst this
    simp at hw
    simp [hw]
end Go.Proofs.YtfodigfliiemeaaA
