/- Contracts: records compared by the document's answer; equal lists; a copy; insertion. -/
import Derived.Test.YtknbhgcjgkejiaaC2
set_option linter.unusedVariables false
set_option linter.unusedSimpArgs false
set_option linter.constructorNameAsVariable false
namespace Go.Proofs.YtknbhgcjgkejiaaV
open Go.RowKit Go.Proofs
attribute [local simp ↓] run_nil run_seq run_skip run_region run_draw run_cond run_block run_exit run_ret run_b run_l run_k rexit_c rexit_l rexit_k rexit_b rops_nil rplan_nil rops_cons rops_guard rplan_cons rplan_two condR_true condR_false
attribute [local simp] planR_some planR_guard rrest_o rrest_p gS_some gR_tt gR_ff gR_ft gR_tf gR_tup valP_some valP_none valE_some valE_none valS_some opR_move opR_assign opR_pick opR_binOp opR_unOp opR_convert opR_convertl opR_extract opR_field opR_fieldAddr opR_indexAddr opR_index opR_slice opR_makeFunc opR_build opR_load opR_loadl opR_p opR_store opR_alloc opR_box opR_buildSlice opR_makeSlice opR_allocc opR_boxc opR_buildSlicec opR_makeSlicec opR_len opR_append opR_clear opR_call opR_callc
attribute [local simp] evP boxAV allocAV okCells_agg okCells_sl okCells_so okCells_int okCells_bool okCells_str okCells_nilp okCells_nilfn okCells_ptr okCells_fn okCells_ub loadAV loadEl storeAV storeEl partAV partAV0 fieldAV fieldAddrAV indexAddrAV indexAV lenAV sliceAV boundAV fieldAt? elemOf? kindOf look cst updO upd dstOk binAV_int binAV_str binAV_bool binAV_fn binAV_nilfn binAV_agg binAV_sl eqUb binInt binStr isShift shiftInt unAV convAV bytesAV bytesOf clearAV TD.agg RetQ resAV resAVs resAV1 F0 AV.ret AV.retL St.empty fnOf_fn gslot buildAV fillAV placesAV buildSliceAV makeSliceAV appendAV appRow_so appRow_nil listAV_sl listAV_so cutL fillE zeroElem? addRows_nil le_refl leL_refl le_agg le_tup le_int le_bool le_str le_sl leL_nil leL_cons conv0 conv_tk arg_tk res_tk fzn_tk fzn_so fzn_elo fzn_ptr res_so deep_tk tkArg_ro tkArg_fz tkArg_nil tkRes_ro tkRes_nil tkRes_fz conv_so arg_so deepc_so deepa_so at_new at_nil at_box live_at' new_len new_box put_len put_box retL_append retL_take retL_drop retL_set retL_replicate at_fzn fzn_len
attribute [local simp] encV encR encA encI eqV10 eqOp retL_V retL_A retL_I retL_R_conv retL_R_arg retL_R_res retL_R_fzn retL_R_dc retL_R_da T_int T_bool T_u8 T_string T_Value T_fnVal T_Draws T_Records T_Alt T_Alts T_ints T_Region T_Values T_Record T_Draw T_RecordLists T_fnRec T_fnRecB T_uint T_bytes
theorem Ahead_pure (a b c d : Int) : Pure Try.prog 38 [.int .i64 a, .int .i64 b, .int .i64 c, .int .i64 d] [] (.bool (decide (a < c) || (decide (a = c) && decide (b < d)))) := by
  refine Pure.of_run hmix Try.func38 (by kernel_rfl) rfl ⟨Try.ntmps38, by simp⟩ ?_
  simp
  repeat' (first | (refine condR_mk (fun h => ?_) (fun h => ?_) <;> simp [h]) | (refine gR_mk (fun h => ?_) (fun h => ?_) <;> simp [h]))
  all_goals (simp at *; omega)
theorem lcmp_end {a b : List Val} {i : Nat} (ha : i ≤ a.length) (hb : i ≤ b.length) (h : a.length ≤ i ∨ b.length ≤ i) : lcmp (a.drop i) (b.drop i) = if a.length < b.length then -1 else if b.length < a.length then 1 else 0 := by
  rcases h with h | h
  · have : i = a.length := by omega
    subst this
    rw [List.drop_length]
    rcases Nat.lt_or_ge a.length b.length with h' | h'
    · rw [List.drop_eq_getElem_cons h', if_pos h']; rfl
    · rw [List.drop_of_length_le h', if_neg (by omega), if_neg (by omega)]; rfl
  · have : i = b.length := by omega
    subst this
    rw [List.drop_length]
    rcases Nat.lt_or_ge b.length a.length with h' | h'
    · rw [List.drop_eq_getElem_cons h', if_neg (by omega), if_pos h']; rfl
    · rw [List.drop_of_length_le h', if_neg (by omega), if_neg (by omega)]; rfl
theorem compareLists_pure (a b : List Val) (ha : a.length < 4611686018427387904) : Pure Try.prog 32 [.sl 23 4 .ro (a.map encV), .sl 23 4 .ro (b.map encV)] [] (.int .i64 (lcmp a b)) := by
  refine Pure.of_run hmix Try.func32 (by kernel_rfl) rfl ⟨Try.ntmps32, by simp⟩ ?_
  simp
  refine run_loop (fun F _ => ∃ i : Nat, i ≤ a.length ∧ i ≤ b.length ∧ F 0 = .sl 23 4 .ro (a.map encV) ∧ F 1 = .sl 23 4 .ro (b.map encV) ∧ F 5 = .int .i64 i ∧ lcmp (a.drop i) (b.drop i) = lcmp a b) (fun F _ => a.length - (F 5).num) (.here ⟨0, by simp⟩) ?_
  rintro F s ⟨i, hi, hib, h0, h1, h5, ho⟩
  simp [h0, h1, h5]
  refine gR_mk (fun h => ?_) (fun h => ?_) <;> simp [h, h0, h1, h5]
  · simp only [decide_eq_true_eq] at h
    have h' : i < a.length := by omega
    refine condR_mk (fun hb => ?_) (fun hb => ?_) <;> simp at hb <;> simp [h0, h1, h5]
    · refine RDraw_mk [] (.go 0 .p (.go 1 .p (.go 2 .p (.go 4 .p (.go 5 .p (.go 6 .p (.go 3 .l (.go 7 .l (.go 8 .c (.go 9 .p .nil)))))))))) (by kernel_rfl) ?_
      simp [h', hb, h0, h1, h5]
      refine callW_of (by simp) ?_
      simp [h0, h1, h5]
      refine (rCompare_pure a[i] b[i]).run true (by simp [h0, h1, h5]) ?_
      simp [h0, h1, h5]
      rw [lcmp_drop h' hb] at ho
      refine condR_mk (fun hc => ?_) (fun hc => ?_) <;> simp at hc <;> simp [h0, h1, h5]
      · simpa [hc] using ho
      · have hw := wrap_suc i (by omega)
        simp [hw]
        refine .here ⟨⟨i + 1, by omega, by omega, h0, h1, rfl, ?_⟩, ?_⟩
        · simpa [hc] using ho
        · simp [AV.num]; omega
    · rw [← ho, lcmp_end hi hib (by omega)]
      repeat' (first | (refine condR_mk (fun h => ?_) (fun h => ?_) <;> simp [h, h0, h1, h5]) | (refine gR_mk (fun h => ?_) (fun h => ?_) <;> simp [h, h0, h1, h5]))
      all_goals grind
  · rw [← ho, lcmp_end hi hib (by simp at h; omega)]
    repeat' (first | (refine condR_mk (fun h => ?_) (fun h => ?_) <;> simp [h, h0, h1, h5]) | (refine gR_mk (fun h => ?_) (fun h => ?_) <;> simp [h, h0, h1, h5]))
    all_goals grind
def okR (r : Rec) : Prop := r.src.length < 1000000000
def okL (l : List Rec) : Prop := l.length < 1000000000 ∧ ∀ r ∈ l, okR r
theorem CompareRecords_pure (a b : Rec) (ha : okR a) : Pure Try.prog 28 [encR a, encR b] [] (.int .i64 (rcmp a b)) := by
  refine Pure.of_run hmix Try.func28 (by kernel_rfl) rfl ⟨Try.ntmps28, by simp⟩ ?_
  simp
  refine gR_mk (fun h => ?_) (fun h => ?_) <;> simp [h]
  · refine callW_of (by simp) ?_
    simp [h]
    refine (Ahead_pure a.id a.field b.id b.field).run true (by simp [h]) ?_
    simp [h]
    simp at h
    repeat' (first | (refine condR_mk (fun h => ?_) (fun h => ?_) <;> simp [h]) | (refine gR_mk (fun h => ?_) (fun h => ?_) <;> simp [h]))
    all_goals (simp at *; simp only [rcmp, orI, cmpI]; grind)
  · refine condR_mk (fun h1 => ?_) (fun h1 => ?_) <;> simp [h1]
    · refine callW_of (by simp) ?_
      simp
      refine (Ahead_pure a.id a.field b.id b.field).run true (by simp) ?_
      simp
      repeat' (first | (refine condR_mk (fun h => ?_) (fun h => ?_) <;> simp [h]) | (refine gR_mk (fun h => ?_) (fun h => ?_) <;> simp [h]))
      all_goals (simp at *; simp only [rcmp, orI, cmpI]; grind)
    · refine callW_of (by simp) ?_
      simp
      refine (compareLists_pure a.src b.src (by unfold okR at ha; omega)).run true (by simp) ?_
      simp
      refine condR_mk (fun h2 => ?_) (fun h2 => ?_) <;> simp [h2]
      · simp at *
        simp only [rcmp, orI, cmpI]
        grind
      · refine callW_of (by simp) ?_
        simp
        refine (rCompare_pure a.to b.to).run true (by simp) ?_
        simp
        simp at *
        simp only [rcmp, orI, cmpI]
        grind
theorem Equal_pure (a b : List Val) (ha : a.length < 4611686018427387904) : Pure Try.prog 31 [.sl 23 4 .ro (a.map encV), .sl 23 4 .ro (b.map encV)] [] (.bool (decide (a = b))) := by
  refine Pure.of_run hmix Try.func31 (by kernel_rfl) rfl ⟨Try.ntmps31, by simp⟩ ?_
  simp
  refine condR_mk (fun h => ?_) (fun h => ?_) <;> simp at h <;> simp
  · intro h'; subst h'; exact h rfl
  refine run_loop (fun F _ => ∃ i : Nat, i ≤ a.length ∧ F 0 = .sl 23 4 .ro (a.map encV) ∧ F 1 = .sl 23 4 .ro (b.map encV) ∧ F 12 = .int .i64 a.length ∧ F 13 = .int .i64 i ∧ a.take i = b.take i) (fun F _ => a.length - (F 13).num) (.here ⟨0, by simp⟩) ?_
  rintro F s ⟨i, hi, h0, h1, h12, h13, ho⟩
  simp [h0, h1, h12, h13]
  refine condR_mk (fun h2 => ?_) (fun h2 => ?_) <;> simp at h2 <;> simp [h0, h1, h12, h13]
  · refine RDraw_mk [] (.go 0 .p (.go 1 .p (.go 2 .p (.go 4 .p (.go 5 .p (.go 6 .p (.go 3 .l (.go 7 .l (.go 8 .p .nil))))))))) (by kernel_rfl) ?_
    have hb : i < b.length := by omega
    simp [h2, hb, h0, h1, h12, h13]
    refine condR_mk (fun h3 => ?_) (fun h3 => ?_) <;> simp at h3 <;> simp [h0, h1, h12, h13]
    · intro h'; subst h'; exact h3 rfl
    · have hw := wrap_suc i (by omega)
      simp [hw]
      refine .here ⟨⟨i + 1, by omega, h0, h1, h12, rfl, ?_⟩, ?_⟩
      · rw [List.take_add_one, List.take_add_one, ho, List.getElem?_eq_getElem h2, List.getElem?_eq_getElem hb, h3]
      · simp [AV.num]; omega
  · have : i = a.length := by omega
    subst this
    have hn : a.length = b.length := by omega
    rw [List.take_length, hn, List.take_length] at ho
    exact ho
theorem Clone_pure (l : List Val) (hl : l.length < 1000000000) : Pure Try.prog 23 [.sl 23 4 .ro (l.map encV)] [] (.sl 23 4 .ro (l.map encV)) := by
  refine Pure.of_run hmix Try.func23 (by kernel_rfl) rfl ⟨Try.ntmps23, by simp⟩ ?_
  cases l with
  | nil =>
    simp
    refine condR_ub ?_ ?_
    · simp
    · simp
  | cons x l =>
    simp at hl
    simp
    rw [if_pos (by omega)]
    simp [List.take_of_length_le]
/-- Where a value is put in: behind all that do not come after it. -/
def insAt {α : Type} (c : α → α → Int) (x : α) (l : List α) : Nat → Nat
  | 0 => 0
  | k + 1 => match l[k]? with
    | some y => if 0 < c y x then insAt c x l k else k + 1
    | none => 0
def same1 {α : Type} (c : α → α → Int) (x : α) (l : List α) : Nat → Bool
  | 0 => false
  | k + 1 => match l[k]? with
    | some y => decide (c y x = 0)
    | none => false
/-- A list with a further value, each once. -/
def ins {α : Type} (c : α → α → Int) (l : List α) (x : α) : List α := if same1 c x l (insAt c x l l.length) = true then l else l.take (insAt c x l l.length) ++ x :: l.drop (insAt c x l l.length)
theorem insAt_le {α : Type} (c : α → α → Int) (x : α) (l : List α) : ∀ k, insAt c x l k ≤ k
  | 0 => Nat.le_refl _
  | k + 1 => by
    unfold insAt
    split
    · split
      · exact Nat.le_succ_of_le (insAt_le c x l k)
      · exact Nat.le_refl _
    · exact Nat.zero_le _
theorem insAt_stop {α : Type} {c : α → α → Int} {x : α} {l : List α} {j : Nat} (h : j < l.length) (hc : ¬ 0 < c l[j] x) : insAt c x l (j + 1) = j + 1 := by
  simp [insAt, List.getElem?_eq_getElem h, hc]
theorem insAt_go {α : Type} {c : α → α → Int} {x : α} {l : List α} {j : Nat} (h : j < l.length) (hc : 0 < c l[j] x) : insAt c x l (j + 1) = insAt c x l j := by
  simp [insAt, List.getElem?_eq_getElem h, hc]
theorem insert_pure (l : List Rec) (x : Rec) (hl : okL l) : Pure Try.prog 29 [.sl 43 7 .ro (l.map encR), encR x] [] (.sl 43 7 .ro ((ins rcmp l x).map encR)) := by
  refine Pure.of_run hmix Try.func29 (by kernel_rfl) rfl ⟨Try.ntmps29, by simp⟩ ?_
  simp [-run_block]
  obtain ⟨hl1, hl2⟩ := hl
  refine run_cut (fun F s => ∃ k : Nat, k = insAt rcmp x l l.length ∧ s = ⟨[(43, [.int .i64 x.id, .int .i64 x.field, .sl 23 4 .ro (x.src.map encV), .int .i64 x.to.n, .bool x.to.flag, .str x.to.text, .int .i64 x.to.ref])], []⟩ ∧ F 0 = .sl 43 7 .ro (l.map encR) ∧ F 3 = .ptr 0 0 ∧ F 5 = .int .i64 k) ?_ ?_
  · simp
    refine run_loop (fun F s => ∃ k : Nat, k ≤ l.length ∧ s = ⟨[(43, [.int .i64 x.id, .int .i64 x.field, .sl 23 4 .ro (x.src.map encV), .int .i64 x.to.n, .bool x.to.flag, .str x.to.text, .int .i64 x.to.ref])], []⟩ ∧ F 0 = .sl 43 7 .ro (l.map encR) ∧ F 3 = .ptr 0 0 ∧ F 5 = .int .i64 k ∧ insAt rcmp x l k = insAt rcmp x l l.length) (fun F _ => (F 5).num) (.here ⟨l.length, by simp⟩) ?_
    rintro F s ⟨k, hk, rfl, h0, h3, h5, ho⟩
    simp [h0, h3, h5]
    refine RDraw_mk [] (.go 0 .p (.go 1 .p (.go 2 .p (.go 3 .p (.go 4 .p (.go 5 .p (.go 6 .p (.go 7 .l (.go 8 .l (.go 9 .c (.go 10 .p (.go 11 .p .nil)))))))))))) (by kernel_rfl) ?_
    simp [h0, h3, h5]
    refine gR_mk (fun h => ?_) (fun h => ?_) <;> simp [h, h0, h3, h5]
    · simp only [decide_eq_true_eq] at h
      obtain ⟨j, rfl⟩ : ∃ j, k = j + 1 := ⟨k - 1, by omega⟩
      have hj : j < l.length := by omega
      have hw : IntKind.i64.wrap (j : Int) = (j : Int) := wrap_in _ (by omega) (by omega)
      simp [hw, hj, h0, h3, h5]
      refine callW_of (by simp) ?_
      simp [h0, h3, h5]
      refine (CompareRecords_pure l[j] x (hl2 _ (List.getElem_mem hj))).run true (by simp [h0, h3, h5]) ?_
      simp [h0, h3, h5]
      refine condR_mk (fun h1 => ?_) (fun h1 => ?_) <;> simp only [decide_eq_true_eq, decide_eq_false_iff_not] at h1 <;> simp [h0, h3, h5, hw]
      · rw [insAt_go hj h1] at ho
        refine .here ⟨⟨j, by omega, rfl, h0, h3, rfl, ho⟩, ?_⟩
        simp [AV.num]
      · rw [insAt_stop hj h1] at ho
        omega
    · simp only [decide_eq_false_iff_not] at h
      have : k = 0 := by omega
      subst this
      simp [insAt] at ho
      omega
  · rintro F s ⟨k, hk, rfl, h0, h3, h5⟩
    have hkl : k ≤ l.length := by rw [hk]; exact insAt_le ..
    have fin : same1 rcmp x l k = false → ins rcmp l x = l.take k ++ x :: l.drop k := fun h => by unfold ins; rw [← hk, h]; simp
    have fin2 : same1 rcmp x l k = true → ins rcmp l x = l := fun h => by unfold ins; rw [← hk, h]; simp
    rw [run_seq]
    refine run_cut (fun F s => same1 rcmp x l k = false ∧ s = ⟨[(43, [.int .i64 x.id, .int .i64 x.field, .sl 23 4 .ro (x.src.map encV), .int .i64 x.to.n, .bool x.to.flag, .str x.to.text, .int .i64 x.to.ref])], []⟩ ∧ F 0 = .sl 43 7 .ro (l.map encR) ∧ F 3 = .ptr 0 0 ∧ F 5 = .int .i64 k) ?_ ?_
    · simp [h0, h3, h5]
      refine RDraw_mk [] (.go 0 .p (.go 1 .p (.go 2 .p (.go 3 .p (.go 4 .p (.go 5 .p (.go 6 .p (.go 7 .l (.go 8 .l (.go 9 .c (.go 10 .p (.go 11 .p .nil)))))))))))) (by kernel_rfl) ?_
      simp [h0, h3, h5]
      refine gR_mk (fun h => ?_) (fun h => ?_) <;> simp [h, h0, h3, h5]
      · simp only [decide_eq_true_eq] at h
        obtain ⟨j, rfl⟩ : ∃ j, k = j + 1 := ⟨k - 1, by omega⟩
        have hj : j < l.length := by omega
        have hw : IntKind.i64.wrap (j : Int) = (j : Int) := wrap_in _ (by omega) (by omega)
        simp [hw, hj, h0, h3, h5]
        refine callW_of (by simp) ?_
        simp [h0, h3, h5]
        refine (CompareRecords_pure l[j] x (hl2 _ (List.getElem_mem hj))).run true (by simp [h0, h3, h5]) ?_
        simp [h0, h3, h5]
        refine condR_mk (fun h1 => ?_) (fun h1 => ?_) <;> simp [h0, h3, h5, hw]
        · rw [fin2 (by simp at h1; simp [same1, hj, h1])]
          simp
        · simp at h1
          simp [same1, hj, h1]
      · simp only [decide_eq_false_iff_not] at h
        have : k = 0 := by omega
        subst this
        simp [same1]
    · rintro F s ⟨hs, rfl, h0, h3, h5⟩
      rw [fin hs]
      have hkl' : (l.map encR).length = l.length := by simp
      simp [hkl, h0, h3, h5]
      rw [if_pos (by omega)]
      simp [hkl, h0, h3, h5]
      rw [if_pos (by omega)]
      simp [hkl, h0, h3, h5]
      rw [if_pos (by omega)]
      simp
      rw [if_pos (by omega)]
      simp [List.take_of_length_le]
end Go.Proofs.YtknbhgcjgkejiaaV
