/- Contracts: equal neighbours left out, in place. -/
import Derived.Test.YtknbhgcjgkejiaaC5
set_option linter.unusedVariables false
set_option linter.unusedSimpArgs false
set_option linter.constructorNameAsVariable false
namespace Go.Proofs.YtknbhgcjgkejiaaV
open Go.RowKit Go.Proofs
attribute [local simp ↓] run_nil run_seq run_skip run_region run_draw run_cond run_block run_exit run_ret run_b run_l run_k rexit_c rexit_l rexit_k rexit_b rops_nil rplan_nil rops_cons rops_guard rplan_cons rplan_two condR_true condR_false
attribute [local simp] planR_some planR_guard rrest_o rrest_p gS_some gR_tt gR_ff gR_ft gR_tf gR_tup valP_some valP_none valE_some valE_none valS_some opR_move opR_assign opR_pick opR_binOp opR_unOp opR_convert opR_convertl opR_extract opR_field opR_fieldAddr opR_indexAddr opR_index opR_slice opR_makeFunc opR_build opR_load opR_loadl opR_p opR_store opR_alloc opR_box opR_buildSlice opR_makeSlice opR_allocc opR_boxc opR_buildSlicec opR_makeSlicec opR_len opR_append opR_clear opR_call opR_callc
attribute [local simp] evP boxAV allocAV okCells_agg okCells_sl okCells_so okCells_int okCells_bool okCells_str okCells_nilp okCells_nilfn okCells_ptr okCells_fn okCells_ub loadAV loadEl storeAV storeEl partAV partAV0 fieldAV fieldAddrAV indexAddrAV indexAV lenAV sliceAV boundAV fieldAt? elemOf? kindOf look cst updO upd dstOk binAV_int binAV_str binAV_bool binAV_fn binAV_nilfn binAV_agg binAV_sl eqUb binInt binStr isShift shiftInt unAV convAV bytesAV bytesOf clearAV TD.agg RetQ resAV resAVs resAV1 F0 AV.ret AV.retL St.empty fnOf_fn gslot buildAV fillAV placesAV buildSliceAV makeSliceAV appendAV appRow_so appRow_nil listAV_sl listAV_so cutL fillE zeroElem? addRows_nil le_refl leL_refl le_agg le_tup le_int le_bool le_str le_sl leL_nil leL_cons conv0 conv_tk arg_tk res_tk fzn_tk fzn_so fzn_elo fzn_ptr res_so deep_tk tkArg_ro tkArg_fz tkArg_nil tkRes_ro tkRes_nil tkRes_fz conv_so arg_so deepc_so deepa_so at_new at_nil at_box live_at' new_len new_box put_len put_box retL_append retL_take retL_drop retL_set retL_replicate at_fzn fzn_len
attribute [local simp] encV encR encA encI eqV10 eqOp retL_V retL_A retL_I retL_R_conv retL_R_arg retL_R_res retL_R_fzn retL_R_dc retL_R_da T_int T_bool T_u8 T_string T_Value T_fnVal T_Draws T_Records T_Alt T_Alts T_ints T_Region T_Values T_Record T_Draw T_RecordLists T_fnRec T_fnRecB T_uint T_bytes
theorem put_put (s : St) (n : Nat) (r r' : RowC) : (s.put n r).put n r' = s.put n r' := by simp [St.put]
/-- The first j elements, each that equals the one before it left out. -/
def cpt {α : Type} [DecidableEq α] (l : List α) : Nat → List α
  | 0 => []
  | j + 1 => match l[j]? with
    | none => cpt l j
    | some x => if 0 < j ∧ l[j - 1]? = some x then cpt l j else cpt l j ++ [x]
theorem cpt_len {α : Type} [DecidableEq α] (l : List α) : ∀ j, (cpt l j).length ≤ j
  | 0 => Nat.le_refl _
  | j + 1 => by
    have := cpt_len l j
    unfold cpt
    split
    · omega
    · split
      · omega
      · simp; omega
theorem cpt_one {α : Type} [DecidableEq α] (l : List α) (h : 0 < l.length) : cpt l 1 = l.take 1 := by
  cases l with
  | nil => simp at h
  | cons a l => simp [cpt]
theorem cpt_same {α : Type} [DecidableEq α] {l : List α} {j : Nat} (h0 : 0 < j) (h : j < l.length) (he : l[j] = l[j - 1]) : cpt l (j + 1) = cpt l j := by
  have : j - 1 < l.length := by omega
  simp [cpt, h, h0, this, he]
theorem cpt_new {α : Type} [DecidableEq α] {l : List α} {j : Nat} (h0 : 0 < j) (h : j < l.length) (he : ¬ l[j] = l[j - 1]) : cpt l (j + 1) = cpt l j ++ [l[j]] := by
  have : j - 1 < l.length := by omega
  have he' : ¬ l[j - 1] = l[j] := fun e => he e.symm
  simp [cpt, h, this, he']
theorem cpt_none {α : Type} [DecidableEq α] {l : List α} {j : Nat} (h : l.length ≤ j) : cpt l (j + 1) = cpt l j := by simp [cpt, List.getElem?_eq_none h]
theorem cpt_whole {α : Type} [DecidableEq α] {l : List α} {m : Nat} (h : cpt l m = l.take m) (hm : l.length ≤ m) : cpt l l.length = l := by
  have key : ∀ i, cpt l (l.length + i) = cpt l l.length := by
    intro i
    induction i with
    | zero => rfl
    | succ i ih =>
      rw [← Nat.add_assoc, cpt_none (by omega)]
      exact ih
  obtain ⟨i, rfl⟩ : ∃ i, m = l.length + i := ⟨m - l.length, by omega⟩
  rw [key, List.take_of_length_le (by omega)] at h
  exact h
theorem put_self {s : St} {n : Nat} {r : RowC} (ha : s.at n = some r) : s.put n r = s := by
  obtain ⟨b, rr⟩ := s
  have hr : rr[n]? = some (some r) := by
    simp only [St.at] at ha
    cases hq : rr[n]? with
    | none => rw [hq] at ha; cases ha
    | some y => rw [hq] at ha; simp at ha; rw [ha]
  simp only [St.put, St.mk.injEq, true_and]
  exact List.ext_getElem? fun k => by
    rw [List.getElem?_set]
    split
    · rename_i hk'; subst hk'; rw [hr]; simp [(List.getElem?_eq_some_iff.1 hr).1]
    · rfl
/-- The row in the midst of it: k elements are done, the others stand where they stood. -/
theorem row_at {α : Type} (E : α → AV) {l A : List α} {k i : Nat} (hA : A.length = k) (hk : k ≤ i) (hi : i < l.length) : (A.map E ++ (l.drop k).map E)[i]? = some (E l[i]) := by
  subst hA
  rw [List.getElem?_append_right (by simpa using hk)]
  have : A.length + (i - A.length) = i := by omega
  simp [this, hi]
theorem row_set {α : Type} (E : α → AV) {l A : List α} {k : Nat} (hA : A.length = k) (hk : k < l.length) (x : α) : (A.map E ++ (l.drop k).map E).set k (E x) = (A ++ [x]).map E ++ (l.drop (k + 1)).map E := by
  subst hA
  rw [List.drop_eq_getElem_cons hk, List.map_cons, List.set_append_right _ _ (by simp)]
  simp only [List.length_map, Nat.sub_self, List.set_cons_zero, List.map_append, List.map_cons, List.map_nil, List.append_assoc, List.singleton_append]
/-- The second loop's invariant. -/
def CptI {α : Type} [DecidableEq α] (E : α → AV) (e sz : Nat) (s : St) (n : Nat) (l : List α) (a b c k0 : Nat) (F : Fr) (s1 : St) : Prop :=
  ∃ k k2 : Nat, F 0 = .so n 0 l.length ∧ F a = .so n k0 (l.length - k0) ∧ F b = .int .i64 k ∧ F c = .int .i64 k2 ∧ 1 ≤ k2 ∧ k0 + k2 ≤ l.length ∧ (cpt l (k0 + k2)).length = k ∧ k < k0 + k2 ∧ s1 = s.put n (e, sz, (cpt l (k0 + k2)).map E ++ (l.drop k).map E)
theorem Compact_sound {s : St} {n : Nat} {l : List Val} (ha : s.at n = some (23, 4, l.map encV)) (hl : l.length < 1000000000) :
    Fsound Try.prog 40 s [.so n 0 l.length] fun s' r => r = .so n 0 (cpt l l.length).length ∧ ∃ z, s' = s.put n (23, 4, (cpt l l.length).map encV ++ z) := by
  refine Fsound.of_run hmix Try.func40 (by kernel_rfl) rfl ⟨Try.ntmps40, by simp⟩ ?_
  have hat : ∀ r, (s.put n r).at n = some r := fun r => at_put_self ha r
  have hs : s.put n (23, 4, l.map encV) = s := put_self ha
  have whole : ∀ m, cpt l m = l.take m → l.length ≤ m → l.length = (cpt l l.length).length ∧ ∃ z, s = s.put n (23, 4, (cpt l l.length).map encV ++ z) := fun m h1 h2 => by
    rw [cpt_whole h1 h2]
    exact ⟨rfl, [], by rw [List.append_nil, hs]⟩
  simp [ha]
  refine condR_mk (fun h => ?_) (fun h => ?_) <;> simp at h <;> simp [ha]
  · have hc : cpt l 1 = l.take 1 := by
      cases l with
      | nil => rfl
      | cons a l => exact cpt_one _ (by simp)
    exact whole 1 hc (by omega)
  · refine run_loop (fun F s1 => s = s1 ∧ ∃ k : Nat, 1 ≤ k ∧ k ≤ l.length ∧ F 0 = .so n 0 l.length ∧ F 3 = .int .i64 k ∧ cpt l k = l.take k) (fun F _ => l.length - (F 3).num) (.here (by simp; exact ⟨1, by omega, by omega, rfl, cpt_one _ (by omega)⟩)) ?_
    rintro F s1 ⟨rfl, k, hk1, hk, h0, h3, hc⟩
    simp [h0, h3, ha]
    refine condR_mk (fun h1 => ?_) (fun h1 => ?_) <;> simp at h1 <;> simp [h0, h3, ha]
    · refine RDraw_mk [] (.go 0 .p (.go 1 .p (.go 2 .p (.go 4 .p (.go 5 .p (.go 6 .p (.go 7 .p (.go 3 .l (.go 8 .l (.go 9 .p .nil)))))))))) (by kernel_rfl) ?_
      have hw := wrap_pre k (by omega) (by omega)
      have hj : k - 1 < l.length := by omega
      have hnn : (0 : Int) ≤ ((k - 1 : Nat) : Int) := by omega
      simp [h0, h3, ha, hw, h1, hj, hnn]
      refine condR_mk (fun h2 => ?_) (fun h2 => ?_) <;> simp at h2 <;> simp [h0, h3, ha]
      · have hkl : k ≤ l.length := hk
        simp [h0, h3, ha, hkl]
        have e0 : cpt l (k + 1) = l.take k := by rw [cpt_same (by omega) h1 h2, hc]
        obtain ⟨k0, hk0⟩ : ∃ k0, k0 = k := ⟨k, rfl⟩
        subst hk0
        refine run_loop (CptI encV 23 4 s n l 4 3 5 k0) (fun F _ => l.length - (F 5).num) (.here ⟨k0, 1, by simp [h0], by simp, by simp [h3], by simp, by omega, by omega, by rw [e0]; simp; omega, by omega, by rw [e0, ← List.map_append, List.take_append_drop, hs]⟩) ?_
        rintro F s1 ⟨k, k2, h0, h4, h3, h5, hk2, hle, hA, hlt, rfl⟩
        obtain ⟨A, hAA⟩ : ∃ A, cpt l (k0 + k2) = A := ⟨_, rfl⟩
        rw [hAA] at hA
        obtain ⟨row, hrow⟩ : ∃ row, A.map encV ++ (l.drop k).map encV = row := ⟨_, rfl⟩
        have hlen : row.length = l.length := by rw [← hrow]; simp; omega
        rw [hAA, hrow]
        simp [h0, h3, h4, h5, hat]
        refine condR_mk (fun g1 => ?_) (fun g1 => ?_) <;> simp at g1 <;> simp [h0, h3, h4, h5, hat]
        · refine RDraw_mk [] (.go 0 .p (.go 1 .p (.go 2 .p (.go 4 .p (.go 5 .p (.go 6 .p (.go 7 .p (.go 3 .l (.go 8 .l (.go 9 .p .nil)))))))))) (by kernel_rfl) ?_
          have hw2 := wrap_pre k2 (by omega) (by omega)
          have a1 : k0 + k2 < l.length := by omega
          have a2 : k0 + (k2 - 1) < l.length := by omega
          have a3 : k2 < l.length - k0 := by omega
          have a4 : k2 - 1 < l.length - k0 := by omega
          have a5 : k < l.length := by omega
          have x1 : row[k0 + k2]? = some (encV l[k0 + k2]) := by rw [← hrow]; exact row_at encV hA (by omega) a1
          have x2 : row[k0 + (k2 - 1)]? = some (encV l[k0 + (k2 - 1)]) := by rw [← hrow]; exact row_at encV hA (by omega) a2
          have hws := wrap_suc k2 (by omega)
          have hws2 := wrap_suc k (by omega)
          have e2 : l[k0 + (k2 - 1)] = l[k0 + k2 - 1]'(by omega) := by congr 1; omega
          have x3 : row[k]? = some (encV l[k]) := by rw [← hrow]; exact row_at encV hA (Nat.le_refl _) a5
          have e3 : k0 + (k2 + 1) = k0 + k2 + 1 := by omega
          simp [h0, h3, h4, h5, hat, hw2, a3, a4, x1, x2, e2]
          refine condR_mk (fun g2 => ?_) (fun g2 => ?_) <;> simp at g2 <;> simp [h0, h3, h4, h5, hat, hws, hws2, a3, a5, x1, x3, put_put]
          · have e4 : cpt l (k0 + k2 + 1) = A ++ [l[k0 + k2]] := by rw [cpt_new (by omega) a1 g2, hAA]
            have e5 := row_set encV hA a5 l[k0 + k2]
            rw [hrow] at e5
            refine .here ⟨⟨k + 1, k2 + 1, by simp [h0], by simp [h4], by simp, by simp, by omega, by omega, ?_, by omega, ?_⟩, ?_⟩
            · rw [e3, e4]; simp [hA]
            · rw [e3, e4, ← e5]; simp
            · simp [AV.num]; omega
          · have e4 : cpt l (k0 + k2 + 1) = A := by rw [cpt_same (by omega) a1 g2, hAA]
            refine .here ⟨⟨k, k2 + 1, by simp [h0], by simp [h4], by simp [h3], by simp, by omega, by omega, ?_, by omega, ?_⟩, ?_⟩
            · rw [e3, e4, hA]
            · rw [e3, e4, hrow]
            · simp [AV.num]; omega
        · have e6 : k0 + k2 = l.length := by omega
          have a6 : k ≤ l.length := by omega
          have e7 : cpt l l.length = A := by rw [← e6]; exact hAA
          have e8 : row.take k = A.map encV := by rw [← hrow]; exact List.take_left' (by simp [hA])
          simp [h0, h3, h4, h5, hat, a6, put_put]
          rw [e7, e8]
          exact ⟨hA.symm, _, rfl⟩
      · have hws := wrap_suc k (by omega)
        simp [hws, h0, h3]
        refine .here ⟨⟨by trivial, k + 1, by omega, by omega, h0, rfl, ?_⟩, ?_⟩
        · rw [cpt_new (by omega) h1 h2, hc, List.take_succ_eq_append_getElem h1]
        · simp [AV.num]; omega
    · have : k = l.length := by omega
      subst this
      exact whole _ hc (Nat.le_refl _)
theorem CompactFunc_sound {s : St} {n : Nat} {l : List Rec} (ha : s.at n = some (43, 7, l.map encR)) (hl : okL l) :
    Fsound Try.prog 26 s [.so n 0 l.length, .fn 27 []] fun s' r => r = .so n 0 (cpt l l.length).length ∧ ∃ z, s' = s.put n (43, 7, (cpt l l.length).map encR ++ z) := by
  refine Fsound.of_run hmix Try.func26 (by kernel_rfl) rfl ⟨Try.ntmps26, by simp⟩ ?_
  obtain ⟨hl, hok⟩ := hl
  have hok' : ∀ (i : Nat) (h : i < l.length), l[i].src.length < 4611686018427387904 := fun i h => by have := hok _ (List.getElem_mem h); unfold okR at this; omega
  have hat : ∀ r, (s.put n r).at n = some r := fun r => at_put_self ha r
  have hs : s.put n (43, 7, l.map encR) = s := put_self ha
  have whole : ∀ m, cpt l m = l.take m → l.length ≤ m → l.length = (cpt l l.length).length ∧ ∃ z, s = s.put n (43, 7, (cpt l l.length).map encR ++ z) := fun m h1 h2 => by
    rw [cpt_whole h1 h2]
    exact ⟨rfl, [], by rw [List.append_nil, hs]⟩
  simp [ha]
  refine condR_mk (fun h => ?_) (fun h => ?_) <;> simp at h <;> simp [ha]
  · have hc : cpt l 1 = l.take 1 := by
      cases l with
      | nil => rfl
      | cons a l => exact cpt_one _ (by simp)
    exact whole 1 hc (by omega)
  · refine run_loop (fun F s1 => s = s1 ∧ ∃ k : Nat, 1 ≤ k ∧ k ≤ l.length ∧ F 0 = .so n 0 l.length ∧ F 1 = .fn 27 [] ∧ F 5 = .int .i64 k ∧ cpt l k = l.take k) (fun F _ => l.length - (F 5).num) (.here (by simp; exact ⟨1, by omega, by omega, rfl, cpt_one _ (by omega)⟩)) ?_
    rintro F s1 ⟨rfl, k, hk1, hk, h0, hf, h3, hc⟩
    simp [h0, hf, h3, ha]
    refine condR_mk (fun h1 => ?_) (fun h1 => ?_) <;> simp at h1 <;> simp [h0, hf, h3, ha]
    · refine RDraw_mk [] (.go 0 .p (.go 1 .p (.go 2 .p (.go 3 .p (.go 5 .p (.go 6 .p (.go 7 .p (.go 8 .p (.go 4 .l (.go 9 .l (.go 10 .c .nil))))))))))) (by kernel_rfl) ?_
      have hw := wrap_pre k (by omega) (by omega)
      have hj : k - 1 < l.length := by omega
      have hnn : (0 : Int) ≤ ((k - 1 : Nat) : Int) := by omega
      simp [h0, hf, h3, ha, hw, h1, hj, hnn]
      refine callW_of (by simp) ?_
      simp [h0, hf, h3, ha]
      refine (AddC_pure l[k] l[k - 1] (hok' k h1)).run true (by simp [h0, hf, h3, ha]) ?_
      simp [h0, hf, h3, ha]
      refine condR_mk (fun h2 => ?_) (fun h2 => ?_) <;> simp [rcmp_zero] at h2 <;> simp [h0, hf, h3, ha]
      · have hkl : k ≤ l.length := hk
        simp [h0, h3, hf, ha, hkl]
        have e0 : cpt l (k + 1) = l.take k := by rw [cpt_same (by omega) h1 h2, hc]
        obtain ⟨k0, hk0⟩ : ∃ k0, k0 = k := ⟨k, rfl⟩
        subst hk0
        refine run_loop (fun F s1 => F 1 = .fn 27 [] ∧ CptI encR 43 7 s n l 6 5 7 k0 F s1) (fun F _ => l.length - (F 7).num) (.here ⟨by simp [hf], k0, 1, by simp [h0], by simp, by simp [h3], by simp, by omega, by omega, by rw [e0]; simp; omega, by omega, by rw [e0, ← List.map_append, List.take_append_drop, hs]⟩) ?_
        rintro F s1 ⟨hf, k, k2, h0, h4, h3, h5, hk2, hle, hA, hlt, rfl⟩
        obtain ⟨A, hAA⟩ : ∃ A, cpt l (k0 + k2) = A := ⟨_, rfl⟩
        rw [hAA] at hA
        obtain ⟨row, hrow⟩ : ∃ row, A.map encR ++ (l.drop k).map encR = row := ⟨_, rfl⟩
        have hlen : row.length = l.length := by rw [← hrow]; simp; omega
        rw [hAA, hrow]
        simp [h0, hf, h3, h4, h5, hat]
        refine condR_mk (fun g1 => ?_) (fun g1 => ?_) <;> simp at g1 <;> simp [h0, hf, h3, h4, h5, hat]
        · refine RDraw_mk [] (.go 0 .p (.go 1 .p (.go 2 .p (.go 3 .p (.go 5 .p (.go 6 .p (.go 7 .p (.go 8 .p (.go 4 .l (.go 9 .l (.go 10 .c (.go 11 .p .nil)))))))))))) (by kernel_rfl) ?_
          have hw2 := wrap_pre k2 (by omega) (by omega)
          have a1 : k0 + k2 < l.length := by omega
          have a2 : k0 + (k2 - 1) < l.length := by omega
          have a3 : k2 < l.length - k0 := by omega
          have a4 : k2 - 1 < l.length - k0 := by omega
          have a5 : k < l.length := by omega
          have x1 : row[k0 + k2]? = some (encR l[k0 + k2]) := by rw [← hrow]; exact row_at encR hA (by omega) a1
          have x2 : row[k0 + (k2 - 1)]? = some (encR l[k0 + (k2 - 1)]) := by rw [← hrow]; exact row_at encR hA (by omega) a2
          have hws := wrap_suc k2 (by omega)
          have hws2 := wrap_suc k (by omega)
          have e2 : l[k0 + (k2 - 1)] = l[k0 + k2 - 1]'(by omega) := by congr 1; omega
          have x3 : row[k]? = some (encR l[k]) := by rw [← hrow]; exact row_at encR hA (Nat.le_refl _) a5
          have e3 : k0 + (k2 + 1) = k0 + k2 + 1 := by omega
          simp [h0, hf, h3, h4, h5, hat, hw2, a3, a4, x1, x2, e2]
          refine callW_of (by simp) ?_
          simp [h0, hf, h3, h4, h5, hat]
          refine (AddC_pure l[k0 + k2] (l[k0 + k2 - 1]'(by omega)) (hok' _ a1)).run true (by simp [h0, hf, h3, h4, h5, hat]) ?_
          simp [h0, hf, h3, h4, h5, hat]
          refine condR_mk (fun g2 => ?_) (fun g2 => ?_) <;> simp [rcmp_zero] at g2 <;> simp [h0, hf, h3, h4, h5, hat, hws, hws2, a3, a5, x1, x3, put_put]
          · have e4 : cpt l (k0 + k2 + 1) = A ++ [l[k0 + k2]] := by rw [cpt_new (by omega) a1 g2, hAA]
            have e5 := row_set encR hA a5 l[k0 + k2]
            rw [hrow] at e5
            refine .here ⟨⟨by simp [hf], k + 1, k2 + 1, by simp [h0], by simp [h4], by simp, by simp, by omega, by omega, ?_, by omega, ?_⟩, ?_⟩
            · rw [e3, e4]; simp [hA]
            · rw [e3, e4, ← e5]; simp
            · simp [AV.num]; omega
          · have e4 : cpt l (k0 + k2 + 1) = A := by rw [cpt_same (by omega) a1 g2, hAA]
            refine .here ⟨⟨by simp [hf], k, k2 + 1, by simp [h0], by simp [h4], by simp [h3], by simp, by omega, by omega, ?_, by omega, ?_⟩, ?_⟩
            · rw [e3, e4, hA]
            · rw [e3, e4, hrow]
            · simp [AV.num]; omega
        · have e6 : k0 + k2 = l.length := by omega
          have a6 : k ≤ l.length := by omega
          have e7 : cpt l l.length = A := by rw [← e6]; exact hAA
          have e8 : row.take k = A.map encR := by rw [← hrow]; exact List.take_left' (by simp [hA])
          simp [h0, h3, h4, h5, hat, a6, put_put]
          rw [e7, e8]
          exact ⟨hA.symm, _, rfl⟩
      · have hws := wrap_suc k (by omega)
        simp [hws, h0, h3, hf]
        refine .here ⟨⟨by trivial, k + 1, by omega, by omega, h0, hf, rfl, ?_⟩, ?_⟩
        · rw [cpt_new (by omega) h1 h2, hc, List.take_succ_eq_append_getElem h1]
        · simp [AV.num]; omega
    · have : k = l.length := by omega
      subst this
      exact whole _ hc (Nat.le_refl _)
end Go.Proofs.YtknbhgcjgkejiaaV
