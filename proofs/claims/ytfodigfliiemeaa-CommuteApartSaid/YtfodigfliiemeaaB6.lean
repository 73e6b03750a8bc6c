/- The statements' own functions: what they answer. -/
import Derived.Test.YtfodigfliiemeaaB5
namespace Go.Proofs.YtfodigfliiemeaaA
open Go.RowKit Go.Proofs
attribute [local simp ↓] run_nil run_seq run_skip run_region run_draw run_cond run_block run_exit run_ret run_b run_l rexit_c rexit_l rexit_b rops_nil rplan_nil rops_cons rops_guard rplan_cons condR_true condR_false
attribute [local simp] planR_some planR_guard rrest_o rrest_p gS_some gR_tt gR_ff gR_ft gR_tf gR_tup valP_some valP_none valE_some valE_none valS_some opR_move opR_assign opR_pick opR_binOp opR_unOp opR_convert opR_extract opR_field opR_fieldAddr opR_indexAddr opR_index opR_slice opR_makeFunc opR_build opR_load opR_loadl opR_p opR_store opR_alloc opR_box opR_buildSlice opR_makeSlice opR_allocc opR_boxc opR_buildSlicec opR_makeSlicec opR_len opR_append opR_call opR_callc
attribute [local simp] evP boxAV allocAV okCells_agg okCells_sl okCells_int okCells_bool okCells_str okCells_nilp okCells_nilfn okCells_ptr okCells_fn loadAV storeAV partAV partAV0 fieldAV fieldAddrAV indexAddrAV indexAV lenAV sliceAV boundAV fieldAt? elemOf? kindOf look cst updO upd dstOk binAV_int binAV_str binAV_bool binAV_fn binAV_nilfn binAV_agg binInt binStr isShift shiftInt unAV convAV TD.agg RetQ resAV resAVs resAV1 F0 conv_int conv_bool conv_str AV.allT AV.ret AV.allTL AV.retL St.empty fnOf_fn gslot buildAV fillAV placesAV buildSliceAV makeSliceAV fillE zeroElem? Tok.cut Tok.frz Tok.ok Tok.okR Tok.ren Tok.noRo Tok.shift addToks_zero live_last' new_box Tok.fixed le_refl leL_refl le_agg le_tup le_int le_bool le_str le_nil leL_nil leL_cons
attribute [local simp] T3 T4 T9 T22 T27 T34 T36 T37 T38 T40 T46 eqV10 eqC10 eqOp zeroV_eq sameV_eq cell_eq allTL_cells retL_cells
theorem light_pure (a b : List Cell) : Pure Try.prog 6 [slC .ro a, slC .ro b] 0 (.bool (decide (a.length ≤ 100) && decide (b.length ≤ 100))) := by
  refine Pure.of_run hmix Try.func6 (by kernel_rfl) rfl ⟨Try.ntmps6, by simp⟩ ?_
  simp
  refine gR_mk (fun h => ?_) (fun h => ?_) <;> simp [h]
  · simp at h
    rw [Bool.eq_iff_iff]
    simp
    omega
  · simp at h
    omega
theorem allT_cell (p : Tok → Bool) (c : Cell) : (encCell c).allT p = true := (plainCell c).2 p
theorem ret_cell (f : Tok → Tok) (c : Cell) : (encCell c).ret f = encCell c := (plainCell c).1 f
attribute [local simp] allT_cell ret_cell
def nameC (n : Int) (t : ByteArray) : Cell := ⟨1048576 + n, 3, 0, false, t, 0⟩
theorem name_pure (n : Int) (t : ByteArray) (h1 : 0 ≤ n) (h2 : n < 1000) : Pure Try.prog 18 [.int .i64 n, .str t] 0 (slC .fz [nameC n t]) := by
  refine Pure.of_run hmix Try.func18 (by kernel_rfl) rfl ⟨Try.ntmps18, by simp⟩ ?_
  simp [wrap_in (1048576 + n) (by omega) (by omega)]
  exact conv_fz plainCell (k := some _) (live_last' _ _) 36 6 [nameC n t]
theorem aw1 : indep [nameC 1 ⟨#[102]⟩] [nameC 2 ⟨#[102]⟩] = true := by simp [indep, wrB, wrTo, List.range_succ, okAt, nameC, validId, vis, ahead, ordr]
theorem aw2 : indep [nameC 1 ⟨#[102]⟩] [nameC 1 ⟨#[103]⟩] = false := by simp [indep, wrB, wrTo, List.range_succ, okAt, nameC, validId, vis, ahead, ordr]
theorem aw3 : comp [nameC 2 ⟨#[102]⟩] [nameC 1 ⟨#[103]⟩] = [nameC 1 ⟨#[103]⟩, nameC 2 ⟨#[102]⟩] := by simp [comp, wrB, wrTo, List.range_succ, okAt, nameC, validId, vis, ahead, ordr]
theorem aw4 : inverse [nameC 1 ⟨#[102]⟩] [nameC 1 ⟨#[103]⟩] = [nameC 1 ⟨#[102]⟩] := by simp [inverse, valB, solid, zeroV, wrB, wrTo, List.range_succ, okAt, nameC, validId, vis, ahead, ordr]
theorem aw5 : least [nameC 1 ⟨#[102]⟩] [nameC 1 ⟨#[102]⟩] = [] := by simp [least, valB, solid, zeroV, sameV, wrB, wrTo, List.range_succ, okAt, nameC, validId, vis, ahead, ordr]
theorem awake_pure : Pure Try.prog 7 [] 0 (.bool true) := by
  refine Pure.of_run hmix Try.func7 (by kernel_rfl) rfl ⟨Try.ntmps7, by simp⟩ ?_
  simp
  refine (name_pure 1 ⟨#[102]⟩ (by omega) (by omega)).run (by simp) (by simp) (by simp) (by simp) ?_
  simp
  refine RDraw_mk [] [(0, .l), (1, .c), (2, .c), (3, .p)] (by kernel_rfl) ?_
  simp
  refine (name_pure 1 ⟨#[103]⟩ (by omega) (by omega)).run (by simp) (by simp) (by simp) (by simp) ?_
  simp
  refine (inverse_pure [nameC 1 ⟨#[102]⟩] [nameC 1 ⟨#[103]⟩] (by simp) (by simp)).run (by simp) (by simp [slC]) (by simp [slC]) (by simp) ?_
  rw [show inverse [nameC 1 ⟨#[102]⟩] [nameC 1 ⟨#[103]⟩] = [nameC 1 ⟨#[102]⟩] from aw4]
  simp
  refine RDraw_mk [] [(0, .c), (1, .c), (2, .c), (3, .p), (4, .c), (5, .c), (6, .c), (7, .p), (8, .p), (9, .p), (10, .c), (11, .c), (12, .c), (13, .p), (14, .p), (15, .p), (16, .p), (17, .p), (18, .p), (19, .p), (20, .p), (21, .p), (22, .p), (23, .p), (24, .l), (25, .c), (26, .p), (27, .l), (28, .p), (29, .p), (30, .p), (31, .l), (32, .c), (33, .c), (34, .p), (35, .p), (36, .p), (37, .p)] (by kernel_rfl) ?_
  simp
  refine (name_pure 1 ⟨#[102]⟩ (by omega) (by omega)).run (by simp) (by simp) (by simp) (by simp) ?_
  simp
  refine (name_pure 2 ⟨#[102]⟩ (by omega) (by omega)).run (by simp) (by simp) (by simp) (by simp) ?_
  simp
  refine (indep_pure [nameC 1 ⟨#[102]⟩] [nameC 2 ⟨#[102]⟩] (by simp) (by simp)).run (by simp) (by simp [slC]) (by simp [slC]) (by simp) ?_
  rw [show indep [nameC 1 ⟨#[102]⟩] [nameC 2 ⟨#[102]⟩] = true from aw1]
  simp
  refine (name_pure 1 ⟨#[102]⟩ (by omega) (by omega)).run (by simp) (by simp) (by simp) (by simp) ?_
  simp
  refine (name_pure 1 ⟨#[103]⟩ (by omega) (by omega)).run (by simp) (by simp) (by simp) (by simp) ?_
  simp
  refine (indep_pure [nameC 1 ⟨#[102]⟩] [nameC 1 ⟨#[103]⟩] (by simp) (by simp)).run (by simp) (by simp [slC]) (by simp [slC]) (by simp) ?_
  rw [show indep [nameC 1 ⟨#[102]⟩] [nameC 1 ⟨#[103]⟩] = false from aw2]
  simp
  refine (name_pure 2 ⟨#[102]⟩ (by omega) (by omega)).run (by simp) (by simp) (by simp) (by simp) ?_
  simp
  refine (name_pure 1 ⟨#[103]⟩ (by omega) (by omega)).run (by simp) (by simp) (by simp) (by simp) ?_
  simp
  refine (comp_pure [nameC 2 ⟨#[102]⟩] [nameC 1 ⟨#[103]⟩] (by simp) (by simp)).run (by simp) (by simp [slC]) (by simp [slC]) (by simp) ?_
  rw [show comp [nameC 2 ⟨#[102]⟩] [nameC 1 ⟨#[103]⟩] = [nameC 1 ⟨#[103]⟩, nameC 2 ⟨#[102]⟩] from aw3]
  simp [encCell]
  refine (name_pure 1 ⟨#[102]⟩ (by omega) (by omega)).run (by simp) (by simp) (by simp) (by simp) ?_
  simp [encCell, nameC, ba_beq]
  refine (name_pure 1 ⟨#[102]⟩ (by omega) (by omega)).run (by simp) (by simp) (by simp) (by simp) ?_
  simp [encCell, nameC]
  refine (least_pure [nameC 1 ⟨#[102]⟩] [nameC 1 ⟨#[102]⟩] (by simp) (by simp)).run (by simp [slC]) (by simp [slC]) (by simp [slC, encCell, nameC]) (by simp) ?_
  rw [show least [nameC 1 ⟨#[102]⟩] [nameC 1 ⟨#[102]⟩] = [] from aw5]
  simp [slC]
/-- CommuteWrites, for lists that are short. -/
theorem law3_pure (a b : List Cell) (h1 : indep a b = indep24 a b) (h2 : comp a b = comp24 a b) (h3 : rest a b = rest24 a b) : Pure Try.prog 3 [slC .ro a, slC .ro b] 0 (.bool true) := by
  refine Pure.of_run hmix Try.func3 (by kernel_rfl) rfl ⟨Try.ntmps3, by simp⟩ ?_
  simp
  refine (light_pure a b).run rfl (by simp) (by simp) (by simp) ?_
  simp
  refine condR_mk (fun h => ?_) (fun h => ?_)
  · simp
    refine awake_pure.run rfl (by simp) (by simp) (by simp) ?_
    simp
  · simp at h
    have ha : a.length < 1000000 := by omega
    have hb : b.length < 1000000 := by omega
    simp
    refine awake_pure.run rfl (by simp) (by simp) (by simp) ?_
    simp
    refine (indep_pure a b ha hb).run rfl (by simp) (by simp) (by simp) ?_
    simp
    refine (indep24_pure a b ha hb).run rfl (by simp) (by simp) (by simp) ?_
    simp [h1]
    refine (comp_pure a b ha hb).run (by simp) (by simp) (by simp) (by simp) ?_
    simp
    refine (comp24_pure a b ha hb).run (by simp) (by simp) (by simp) (by simp) ?_
    simp
    refine (same_pure (comp a b) (comp24 a b) (by have := comp_len a b; omega)).run rfl (by simp) (by simp) (by simp) ?_
    simp [h2]
    refine (rest_pure a b ha hb).run (by simp) (by simp) (by simp) (by simp) ?_
    simp
    refine (rest24_pure a b ha hb).run (by simp) (by simp) (by simp) (by simp) ?_
    simp
    refine (same_pure (rest a b) (rest24 a b) (by have := rest_len a b; omega)).run rfl (by simp) (by simp) (by simp) ?_
    simp [h3]
/-- CommuteComposes. -/
theorem law4_pure (m a b c : List Cell) (h1 : valB m = true → wrB a = true → wrB b = true → put (put m a) b = put m (comp a b)) (h2 : wrB a = true → wrB b = true → wrB c = true → comp (comp a b) c = comp a (comp b c)) :
    Pure Try.prog 4 [.agg [slC .ro m], slC .ro a, slC .ro b, slC .ro c] 0 (.bool true) := by
  refine Pure.of_run hmix Try.func4 (by kernel_rfl) rfl ⟨Try.ntmps4, by simp⟩ ?_
  simp
  refine (light_pure m a).run rfl (by simp) (by simp) (by simp) ?_
  simp
  refine gR_mk (fun g1 => ?_) (fun g1 => ?_) <;> skip
  · simp [g1]
    refine awake_pure.run rfl (by simp) (by simp) (by simp) ?_
    simp
  simp [g1]
  have ⟨l1, l2⟩ : m.length ≤ 100 ∧ a.length ≤ 100 := by simpa using g1
  refine (light_pure b c).run rfl (by simp) (by simp) (by simp) ?_
  simp
  refine gR_mk (fun g2 => ?_) (fun g2 => ?_) <;> skip
  · simp [g2]
    refine awake_pure.run rfl (by simp) (by simp) (by simp) ?_
    simp
  simp [g2]
  have ⟨l3, l4⟩ : b.length ≤ 100 ∧ c.length ≤ 100 := by simpa using g2
  refine (valid_pure m (by omega)).run rfl (by simp) (by simp) (by simp) ?_
  simp
  refine gR_mk (fun g3 => ?_) (fun g3 => ?_) <;> simp only [Bool.not_eq_true', Bool.not_eq_false'] at g3
  · simp [g3]
    refine awake_pure.run rfl (by simp) (by simp) (by simp) ?_
    simp
  simp [g3]
  refine (writes_pure a (by omega)).run rfl (by simp) (by simp) (by simp) ?_
  simp
  refine gR_mk (fun g4 => ?_) (fun g4 => ?_) <;> simp only [Bool.not_eq_true', Bool.not_eq_false'] at g4
  · simp [g4]
    refine awake_pure.run rfl (by simp) (by simp) (by simp) ?_
    simp
  simp [g4]
  refine (writes_pure b (by omega)).run rfl (by simp) (by simp) (by simp) ?_
  simp
  refine gR_mk (fun g5 => ?_) (fun g5 => ?_) <;> simp only [Bool.not_eq_true', Bool.not_eq_false'] at g5
  · simp [g5]
    refine awake_pure.run rfl (by simp) (by simp) (by simp) ?_
    simp
  simp [g5]
  refine (writes_pure c (by omega)).run rfl (by simp) (by simp) (by simp) ?_
  simp
  refine condR_mk (fun g6 => ?_) (fun g6 => ?_) <;> simp only [Bool.not_eq_true', Bool.not_eq_false'] at g6
  · simp [g6]
    refine awake_pure.run rfl (by simp) (by simp) (by simp) ?_
    simp
  simp [g6]
  have q1 := put_len m a
  have q2 := put_len (put m a) b
  have q3 := comp_len a b
  have q4 := comp_len b c
  have q5 := comp_len (comp a b) c
  have q6 := put_len m (comp a b)
  refine (put_pure m a (by omega) (by omega)).run (by simp) (by simp) (by simp) (by simp) ?_
  simp
  refine (put_pure (put m a) b (by omega) (by omega)).run (by simp) (by simp) (by simp) (by simp) ?_
  simp
  refine RDraw_mk [] [(0, .c), (1, .p), (2, .p), (3, .p), (5, .p), (6, .p), (4, .l), (7, .c), (8, .c), (9, .c), (10, .p), (11, .p), (12, .p), (13, .p), (15, .p), (17, .p), (18, .p), (19, .p), (14, .c), (16, .c), (20, .c), (21, .c), (22, .c), (23, .p), (24, .p)] (by kernel_rfl) ?_
  simp
  refine (awake_pure).run rfl (by simp) (by simp) (by simp) ?_
  simp
  refine (comp_pure a b (by omega) (by omega)).run (by simp) (by simp) (by simp) (by simp) ?_
  simp
  refine (put_pure m (comp a b) (by omega) (by omega)).run (by simp) (by simp) (by simp) (by simp) ?_
  simp
  refine (same_pure (put (put m a) b) (put m (comp a b)) (by omega)).run rfl (by simp) (by simp) (by simp) ?_
  simp [h1 g3 g4 g5]
  refine (comp_pure a b (by omega) (by omega)).run (by simp) (by simp) (by simp) (by simp) ?_
  simp
  refine (comp_pure (comp a b) c (by omega) (by omega)).run (by simp) (by simp) (by simp) (by simp) ?_
  simp
  refine (comp_pure b c (by omega) (by omega)).run (by simp) (by simp) (by simp) (by simp) ?_
  simp
  refine (comp_pure a (comp b c) (by omega) (by omega)).run (by simp) (by simp) (by simp) (by simp) ?_
  simp
  refine (same_pure (comp (comp a b) c) (comp a (comp b c)) (by omega)).run rfl (by simp) (by simp) (by simp) ?_
  simp [h2 g4 g5 g6]
/-- CommuteApart. -/
theorem law5_pure (m a b : List Cell) (h1 : valB m = true → indep a b = true → valB (put (put m a) b) = true) (h2 : valB m = true → indep a b = true → put (put m a) b = put (put m b) a) (h3 : indep a b = true → comp a b = comp b a) (h4 : indep a b = true → (comp a b).length = a.length + b.length) :
    Pure Try.prog 5 [.agg [slC .ro m], slC .ro a, slC .ro b] 0 (.bool true) := by
  refine Pure.of_run hmix Try.func5 (by kernel_rfl) rfl ⟨Try.ntmps5, by simp⟩ ?_
  simp
  refine (light_pure m a).run rfl (by simp) (by simp) (by simp) ?_
  simp
  refine gR_mk (fun g1 => ?_) (fun g1 => ?_) <;> skip
  · simp [g1]
    refine awake_pure.run rfl (by simp) (by simp) (by simp) ?_
    simp
  simp [g1]
  have ⟨l1, l2⟩ : m.length ≤ 100 ∧ a.length ≤ 100 := by simpa using g1
  refine (light_pure b []).run rfl (by simp) (by simp [slC]) (by simp) ?_
  simp
  refine gR_mk (fun g2 => ?_) (fun g2 => ?_) <;> simp only [Bool.not_eq_true', Bool.not_eq_false'] at g2
  · simp [g2]
    refine awake_pure.run rfl (by simp) (by simp) (by simp) ?_
    simp
  have l3 : b.length ≤ 100 := by simpa using g2
  simp [g2]
  refine (valid_pure m (by omega)).run rfl (by simp) (by simp) (by simp) ?_
  simp
  refine gR_mk (fun g3 => ?_) (fun g3 => ?_) <;> simp only [Bool.not_eq_true', Bool.not_eq_false'] at g3
  · simp [g3]
    refine awake_pure.run rfl (by simp) (by simp) (by simp) ?_
    simp
  simp [g3]
  refine (indep_pure a b (by omega) (by omega)).run rfl (by simp) (by simp) (by simp) ?_
  simp
  refine condR_mk (fun g4 => ?_) (fun g4 => ?_) <;> simp only [Bool.not_eq_true', Bool.not_eq_false'] at g4
  · simp [g4]
    refine awake_pure.run rfl (by simp) (by simp) (by simp) ?_
    simp
  simp [g4]
  have q1 := put_len m a
  have q2 := put_len (put m a) b
  have q3 := comp_len a b
  have q5 := put_len m b
  refine (put_pure m a (by omega) (by omega)).run (by simp) (by simp) (by simp) (by simp) ?_
  simp
  refine (put_pure (put m a) b (by omega) (by omega)).run (by simp) (by simp) (by simp) (by simp) ?_
  simp
  refine (awake_pure).run rfl (by simp) (by simp) (by simp) ?_
  simp
  refine (valid_pure (put (put m a) b) (by omega)).run rfl (by simp) (by simp) (by simp) ?_
  simp [h1 g3 g4]
  refine (put_pure m b (by omega) (by omega)).run (by simp) (by simp) (by simp) (by simp) ?_
  simp
  refine (put_pure (put m b) a (by omega) (by omega)).run (by simp) (by simp) (by simp) (by simp) ?_
  simp
  refine (same_pure (put (put m a) b) (put (put m b) a) (by omega)).run rfl (by simp) (by simp) (by simp) ?_
  simp [h2 g3 g4]
  refine (comp_pure a b (by omega) (by omega)).run (by simp) (by simp) (by simp) (by simp) ?_
  simp
  refine (comp_pure b a (by omega) (by omega)).run (by simp) (by simp) (by simp) (by simp) ?_
  simp
  refine (same_pure (comp a b) (comp b a) (by omega)).run rfl (by simp) (by simp) (by simp) ?_
  simp [h3 g4]
  refine (comp_pure a b (by omega) (by omega)).run (by simp) (by simp) (by simp) (by simp) ?_
  simp
  rw [h4 g4, wrap_in _ (by omega) (by omega)]
  omega
end Go.Proofs.YtfodigfliiemeaaA
