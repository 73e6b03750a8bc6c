/- Contracts: the document's Add; equal records; numbers, ids and values of a draw. -/
import Derived.Test.YtknbhgcjgkejiaaC3
set_option linter.unusedVariables false
set_option linter.unusedSimpArgs false
set_option linter.constructorNameAsVariable false
namespace Go.Proofs.YtknbhgcjgkejiaaV
open Go.RowKit Go.Proofs
attribute [local simp ↓] run_nil run_seq run_skip run_region run_draw run_cond run_block run_exit run_ret run_b run_l run_k rexit_c rexit_l rexit_k rexit_b rops_nil rplan_nil rops_cons rops_guard rplan_cons rplan_two condR_true condR_false
attribute [local simp] planR_some planR_guard rrest_o rrest_p gS_some gR_tt gR_ff gR_ft gR_tf gR_tup valP_some valP_none valE_some valE_none valS_some opR_move opR_assign opR_pick opR_binOp opR_unOp opR_convert opR_convertl opR_extract opR_field opR_fieldAddr opR_indexAddr opR_index opR_slice opR_makeFunc opR_build opR_load opR_loadl opR_p opR_store opR_alloc opR_box opR_buildSlice opR_makeSlice opR_allocc opR_boxc opR_buildSlicec opR_makeSlicec opR_len opR_append opR_clear opR_call opR_callc
attribute [local simp] evP boxAV allocAV okCells_agg okCells_sl okCells_so okCells_int okCells_bool okCells_str okCells_nilp okCells_nilfn okCells_ptr okCells_fn okCells_ub loadAV loadEl storeAV storeEl partAV partAV0 fieldAV fieldAddrAV indexAddrAV indexAV lenAV sliceAV boundAV fieldAt? elemOf? kindOf look cst updO upd dstOk binAV_int binAV_str binAV_bool binAV_fn binAV_nilfn binAV_agg binAV_sl eqUb binInt binStr isShift shiftInt unAV convAV bytesAV bytesOf clearAV TD.agg RetQ resAV resAVs resAV1 F0 AV.ret AV.retL St.empty fnOf_fn gslot buildAV fillAV placesAV buildSliceAV makeSliceAV appendAV appRow_so appRow_nil listAV_sl listAV_so cutL fillE zeroElem? addRows_nil le_refl leL_refl le_agg le_tup le_int le_bool le_str le_sl leL_nil leL_cons conv0 conv_tk arg_tk res_tk fzn_tk fzn_so fzn_elo fzn_ptr res_so deep_tk tkArg_ro tkArg_fz tkArg_nil tkRes_ro tkRes_nil tkRes_fz conv_so arg_so deepc_so deepa_so at_new at_nil at_box live_at' new_len new_box put_len put_box retL_append retL_take retL_drop retL_set retL_replicate at_fzn fzn_len
attribute [local simp] encV encR encA encI eqV10 eqOp retL_V retL_A retL_I retL_R_conv retL_R_arg retL_R_res retL_R_fzn retL_R_dc retL_R_da T_int T_bool T_u8 T_string T_Value T_fnVal T_Draws T_Records T_Alt T_Alts T_ints T_Region T_Values T_Record T_Draw T_RecordLists T_fnRec T_fnRecB T_uint T_bytes
theorem ins_len {α : Type} (c : α → α → Int) (l : List α) (x : α) : (ins c l x).length ≤ l.length + 1 := by
  unfold ins
  split
  · omega
  · simp; omega
theorem ins_mem {α : Type} {c : α → α → Int} {l : List α} {x y : α} (h : y ∈ ins c l x) : y ∈ l ∨ y = x := by
  unfold ins at h
  split at h
  · exact .inl h
  · rcases List.mem_append.1 h with h | h
    · exact .inl (List.mem_of_mem_take h)
    · rcases List.mem_cons.1 h with h | h
      · exact .inr h
      · exact .inl (List.mem_of_mem_drop h)
/-- Further values put in, one after the other. -/
def insAll {α : Type} (c : α → α → Int) (l xs : List α) : List α := xs.foldl (ins c) l
theorem insAll_len {α : Type} (c : α → α → Int) : ∀ (xs l : List α), (insAll c l xs).length ≤ l.length + xs.length
  | [], l => by simp [insAll]
  | x :: xs, l => by
    have := insAll_len c xs (ins c l x)
    have := ins_len c l x
    simp only [insAll, List.foldl_cons, List.length_cons] at *
    omega
theorem insAll_mem {α : Type} {c : α → α → Int} : ∀ (xs l : List α) (y : α), y ∈ insAll c l xs → y ∈ l ∨ y ∈ xs
  | [], l, y, h => .inl h
  | x :: xs, l, y, h => by
    rcases insAll_mem xs (ins c l x) y h with h | h
    · rcases ins_mem h with h | h
      · exact .inl h
      · exact .inr (by simp [h])
    · exact .inr (by simp [h])
theorem insAll_snoc {α : Type} (c : α → α → Int) (l xs : List α) (i : Nat) (h : i < xs.length) : insAll c l (xs.take (i + 1)) = ins c (insAll c l (xs.take i)) xs[i] := by
  simp only [insAll, List.take_succ_eq_append_getElem h, List.foldl_append]
  rfl
theorem rAdd_pure (a b : List Rec) (hl : a.length + b.length < 1000000000) (ha : ∀ r ∈ a, okR r) (hb : ∀ r ∈ b, okR r) : Pure Try.prog 12 [.sl 43 7 .ro (a.map encR), .sl 43 7 .ro (b.map encR)] [] (.sl 43 7 .ro ((insAll rcmp [] (a ++ b)).map encR)) := by
  refine Pure.of_run hmix Try.func12 (by kernel_rfl) rfl ⟨Try.ntmps12, by simp⟩ ?_
  simp [-run_block]
  have hok : ∀ i, okL (insAll rcmp [] ((a ++ b).take i)) := fun i => ⟨by
    have := insAll_len rcmp ((a ++ b).take i) []
    simp at this
    omega, fun r hr => by
    rcases insAll_mem _ _ _ hr with h | h
    · cases h
    · have := List.mem_of_mem_take h
      rcases List.mem_append.1 this with h | h
      · exact ha r h
      · exact hb r h⟩
  refine run_cut (fun F s => F 0 = .sl 43 7 .ro (a.map encR) ∧ F 1 = .sl 43 7 .ro (b.map encR) ∧ F 5 = .sl 43 7 .ro ((insAll rcmp [] a).map encR)) ?_ ?_
  · simp
    refine run_loop (fun F s => ∃ i : Nat, i ≤ a.length ∧ F 0 = .sl 43 7 .ro (a.map encR) ∧ F 1 = .sl 43 7 .ro (b.map encR) ∧ F 6 = .int .i64 i ∧ F 5 = .sl 43 7 .ro ((insAll rcmp [] (a.take i)).map encR)) (fun F _ => a.length - (F 6).num)
      (.by (Weak.put (i := 5) (.sl 43 7 .ro []) (by simp)) (.here ⟨0, by simp [insAll]⟩)) ?_
    rintro F s ⟨i, hi, h0, h1, h6, h5⟩
    simp [h0, h1, h6, h5]
    refine condR_mk (fun h => ?_) (fun h => ?_) <;> simp at h <;> simp [h0, h1, h6, h5]
    · have hw := wrap_suc i (by omega)
      have hok' := hok i
      rw [List.take_append_of_le_length (by omega)] at hok'
      simp [h, h0, h1, h6, h5]
      refine callW_of (by simp) ?_
      simp [h0, h1, h6, h5, hw]
      refine (insert_pure (insAll rcmp [] (a.take i)) a[i] hok').run true (by simp [h0, h1, h6, h5, hw]) ?_
      simp [h0, h1, h6, h5, hw]
      refine .here ⟨⟨i + 1, by omega, h0, h1, rfl, ?_⟩, ?_⟩
      · rw [insAll_snoc _ _ _ _ h]
        simp
      · simp [AV.num]; omega
    · have : i = a.length := by omega
      subst this
      simp
  · rintro F s ⟨h0, h1, h5⟩
    simp
    refine run_loop (fun F s => ∃ i : Nat, i ≤ b.length ∧ F 1 = .sl 43 7 .ro (b.map encR) ∧ F 7 = .int .i64 i ∧ F 5 = .sl 43 7 .ro ((insAll rcmp (insAll rcmp [] a) (b.take i)).map encR)) (fun F _ => b.length - (F 7).num)
      (.here ⟨0, by simp [insAll, h1, h5]⟩) ?_
    rintro F s ⟨i, hi, h1, h7, h5⟩
    simp [h1, h7, h5]
    refine condR_mk (fun h => ?_) (fun h => ?_) <;> simp at h <;> simp [h1, h7, h5]
    · have hw := wrap_suc i (by omega)
      have hok' := hok (a.length + i)
      rw [List.take_length_add_append] at hok'
      have e : insAll rcmp [] (a ++ b.take i) = insAll rcmp (insAll rcmp [] a) (b.take i) := by simp [insAll]
      rw [e] at hok'
      simp [h, h1, h7, h5]
      refine callW_of (by simp) ?_
      simp [h1, h7, h5, hw]
      refine (insert_pure (insAll rcmp (insAll rcmp [] a) (b.take i)) b[i] hok').run true (by simp [h1, h7, h5, hw]) ?_
      simp [h1, h7, h5, hw]
      refine .here ⟨⟨i + 1, by omega, h1, rfl, ?_⟩, ?_⟩
      · rw [insAll_snoc _ _ _ _ h]
        simp
      · simp [AV.num]; omega
    · have : i = b.length := by omega
      subst this
      simp [insAll]
theorem sameRecords_pure (a b : List Rec) (hl : a.length < 1000000000) (ha : ∀ r ∈ a, okR r) : Pure Try.prog 11 [.sl 43 7 .ro (a.map encR), .sl 43 7 .ro (b.map encR)] [] (.bool (decide (a = b))) := by
  refine Pure.of_run hmix Try.func11 (by kernel_rfl) rfl ⟨Try.ntmps11, by simp⟩ ?_
  simp
  refine condR_mk (fun h => ?_) (fun h => ?_) <;> simp at h <;> simp
  · intro h'; subst h'; exact h rfl
  refine run_loop (fun F _ => ∃ i : Nat, i ≤ a.length ∧ F 0 = .sl 43 7 .ro (a.map encR) ∧ F 1 = .sl 43 7 .ro (b.map encR) ∧ F 5 = .int .i64 i ∧ a.take i = b.take i) (fun F _ => a.length - (F 5).num) (.here ⟨0, by simp⟩) ?_
  rintro F s ⟨i, hi, h0, h1, h5, ho⟩
  simp [h0, h1, h5]
  refine condR_mk (fun h2 => ?_) (fun h2 => ?_) <;> simp at h2 <;> simp [h0, h1, h5]
  · refine RDraw_mk [] (.go 0 .p (.go 1 .p (.go 2 .p (.go 4 .p (.go 5 .p (.go 6 .p (.go 3 .l (.go 7 .l (.go 8 .c (.go 9 .p .nil)))))))))) (by kernel_rfl) ?_
    have hb : i < b.length := by omega
    simp [h2, hb, h0, h1, h5]
    refine callW_of (by simp) ?_
    simp [h0, h1, h5]
    refine (CompareRecords_pure a[i] b[i] (ha _ (List.getElem_mem h2))).run true (by simp [h0, h1, h5]) ?_
    simp [h0, h1, h5]
    refine condR_mk (fun h3 => ?_) (fun h3 => ?_) <;> simp [rcmp_zero] at h3 <;> simp [h0, h1, h5]
    · intro h'; subst h'; exact h3 rfl
    · have hw := wrap_suc i (by omega)
      simp [hw]
      refine .here ⟨⟨i + 1, by omega, h0, h1, rfl, ?_⟩, ?_⟩
      · rw [List.take_add_one, List.take_add_one, ho, List.getElem?_eq_getElem h2, List.getElem?_eq_getElem hb, h3]
      · simp [AV.num]; omega
  · have : i = a.length := by omega
    subst this
    have hn : a.length = b.length := by omega
    rw [List.take_length, hn, List.take_length] at ho
    exact ho
def modE (x n : Int) : Int := if n < 1 then 0 else x % n
theorem Mod_pure (x n : Int) (hn : n < 4611686018427387904) : Pure Try.prog 13 [.int .i64 x, .int .i64 n] [] (.int .i64 (modE x n)) := by
  refine Pure.of_run hmix Try.func13 (by kernel_rfl) rfl ⟨Try.ntmps13, by simp⟩ ?_
  simp
  refine condR_mk (fun h => ?_) (fun h => ?_) <;> simp only [decide_eq_true_eq, decide_eq_false_iff_not] at h
  · simp [modE, h]
  · have hn0 : ¬ n = 0 := by omega
    simp [hn0, modE, h]
    have e1 := @Int.tmod_eq_emod x n
    have r0 := Int.emod_nonneg x hn0
    have r1 := Int.emod_lt_of_pos x (show 0 < n by omega)
    have key : ∀ y : Int, 0 ≤ y → y < 2 * n → y % n = x % n → (IntKind.i64.wrap y).tmod n = x % n := fun y h1 h2 h3 => by
      rw [wrap_in _ (by omega) (by omega), Int.tmod_eq_emod_of_nonneg h1, h3]
    refine key _ ?_ ?_ ?_
    · rw [e1]; split <;> omega
    · rw [e1]; split <;> omega
    · rw [e1]
      split
      · simp
      · have : (n.natAbs : Int) = n := by omega
        rw [this]
        simp
theorem modE_lo (x n : Int) : 0 ≤ modE x n := by
  unfold modE
  split
  · omega
  · exact Int.emod_nonneg x (by omega)
theorem modE_hi (x n : Int) (h : 0 < n) : modE x n < n := by
  unfold modE
  rw [if_neg (by omega)]
  exact Int.emod_lt_of_pos x h
/-- An id of a draw. -/
def idF (x n : Int) : Int := (1 + modE x 3) * 1048576 + 1 + modE (IntKind.i64.wrap (x.tdiv 3)) n
theorem Id_pure (x n : Int) (hn : n < 1048576) : Pure Try.prog 14 [.int .i64 x, .int .i64 n] [] (.int .i64 (idF x n)) := by
  refine Pure.of_run hmix Try.func14 (by kernel_rfl) rfl ⟨Try.ntmps14, by simp⟩ ?_
  simp
  have l1 := modE_lo x 3
  have l2 := modE_hi x 3 (by omega)
  have l3 := modE_lo (IntKind.i64.wrap (x.tdiv 3)) n
  have l4 : modE (IntKind.i64.wrap (x.tdiv 3)) n < 1048576 := by
    unfold modE
    split
    · omega
    · have := Int.emod_lt_of_pos (IntKind.i64.wrap (x.tdiv 3)) (show 0 < n by omega)
      omega
  refine callW_of (by simp) ?_
  simp
  refine (Mod_pure x 3 (by omega)).run true (by simp) ?_
  simp
  refine callW_of (by simp) ?_
  simp
  refine (Mod_pure (IntKind.i64.wrap (x.tdiv 3)) n (by omega)).run true (by simp) ?_
  simp
  have e : (2 : Int) ^ min 20 IntKind.i64.bits = 1048576 := by decide
  rw [e, wrap_in (1 + modE x 3) (by omega) (by omega), wrap_in ((1 + modE x 3) * 1048576) (by omega) (by omega), wrap_in ((1 + modE x 3) * 1048576 + 1) (by omega) (by omega), wrap_in _ (by omega) (by omega)]
  rfl
/-- A value of a draw. -/
def valF (x : Int) : Val := ⟨modE x 2, modE (IntKind.i64.wrap (x.tdiv 2)) 2 == 1, ByteArray.empty.push (UInt8.ofNat (IntKind.u8.wrap (IntKind.i64.wrap (97 + modE (IntKind.i64.wrap (x.tdiv 4)) 3))).toNat), modE (IntKind.i64.wrap (x.tdiv 12)) 2⟩
theorem value_pure (x : Int) : Pure Try.prog 15 [.int .i64 x] [] (encV (valF x)) := by
  refine Pure.of_run hmix Try.func15 (by kernel_rfl) rfl ⟨Try.ntmps15, by simp⟩ ?_
  simp
  refine RDraw_mk [17] (.go 0 .p (.go 2 .p (.go 3 .p (.go 6 .p (.go 7 .p (.go 13 .p (.go 14 .p (.go 1 .c (.go 4 .c (.go 5 .p (.go 8 .c (.go 9 .p (.go 10 .p (.two 11 .c (.go 12 .l (.go 15 .c (.go 16 .p (.go 17 .x .nil)))) 15 .c (.go 11 .c (.go 12 .l (.go 16 .p (.go 17 .x .nil)))))))))))))))))) (by kernel_rfl) ?_
  simp
  refine callW_of (by simp) ?_
  simp
  refine (Mod_pure x 2 (by omega)).run true (by simp) ?_
  simp
  refine callW_of (by simp) ?_
  simp
  refine (Mod_pure (IntKind.i64.wrap (x.tdiv 2)) 2 (by omega)).run true (by simp) ?_
  simp
  refine callW_of (by simp) ?_
  simp
  refine (Mod_pure (IntKind.i64.wrap (x.tdiv 4)) 3 (by omega)).run true (by simp) ?_
  simp
  refine ⟨?_, ?_⟩
  · refine callW_of (by simp) ?_
    simp
    refine (Mod_pure (IntKind.i64.wrap (x.tdiv 12)) 2 (by omega)).run true (by simp) ?_
    simp
    exact ⟨rfl, rfl, rfl, rfl⟩
  · refine callW_of (by simp) ?_
    simp
    refine (Mod_pure (IntKind.i64.wrap (x.tdiv 12)) 2 (by omega)).run true (by simp) ?_
    simp
    exact ⟨rfl, rfl, rfl, rfl⟩
end Go.Proofs.YtknbhgcjgkejiaaV
